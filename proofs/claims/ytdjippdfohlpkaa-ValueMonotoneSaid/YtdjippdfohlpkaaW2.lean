/- A verified interpreter: its operations are the machine's (ninth part: maps; all together). A verified interpreter: code without draws, and calls. A verified interpreter: what an operation looks at, and what it leaves alone. A verified interpreter: regions that draw their order (first part: the trace, the order, who wrote last). A verified interpreter: regions that draw their order (second part: what holds between two operations). -/
import Derived.Test.YtdjippdfohlpkaaW1
import Derived.LoopN
import Derived.Scope
import Derived.Tactics
import Derived.Orders
namespace Go.Vm
variable {P : Program}

theorem pureRun_bind {α β : Type} (s : Sem α) (f : α → Sem β) : pureRun P (s.bind f) = (pureRun P s).bind fun a => pureRun P (f a) := by
  induction s with
  | pure x => rfl
  | program k ih => exact ih P
  | mark m k ih => exact ih
  | _ => rfl
theorem pureRun_bind' {α β : Type} (s : Sem α) (f : α → Sem β) : pureRun P (s >>= f) = (pureRun P s).bind fun a => pureRun P (f a) := pureRun_bind s f

/-- Entries, each beside its own: the same keys. -/
structure ER (σ : Sg) (l l' : List MapEntry) : Prop where
  len : l.length = l'.length
  at_ : ∀ (i : Nat) e e', l[i]? = some e → l'[i]? = some e' → e'.key = e.key ∧ VR σ e.val e'.val

theorem ER.head {σ : Sg} {v v' : MapEntry} {l l' : List MapEntry} (h : ER σ (v :: l) (v' :: l')) : v'.key = v.key ∧ VR σ v.val v'.val := h.at_ 0 v v' rfl rfl
theorem ER.tail {σ : Sg} {v v' : MapEntry} {l l' : List MapEntry} (h : ER σ (v :: l) (v' :: l')) : ER σ l l' :=
  ⟨by simpa using h.len, fun i u u' a b => h.at_ (i + 1) u u' (by simpa using a) (by simpa using b)⟩

def FoundR (σ : Sg) : Option (Nat × Value) → Option (Nat × Value) → Prop
  | none, none => True
  | some (i, v), some (j, v') => i = j ∧ VR σ v v'
  | _, _ => False

theorem findNow_rel {σ : Sg} {d : TypeDesc} {k : Value} : ∀ {l l' : List MapEntry} {n : Nat}, ER σ l l' →
    (Instr.findNow d k l n = none ∧ Instr.findNow d k l' n = none) ∨ ∃ r r', Instr.findNow d k l n = some r ∧ Instr.findNow d k l' n = some r' ∧ FoundR σ r r'
  | [], l', n, h => by
    have : l' = [] := by have := h.len; simp at this; exact List.eq_nil_of_length_eq_zero this.symm
    subst this
    exact .inr ⟨none, none, rfl, rfl, trivial⟩
  | e :: r, [], n, h => by have := h.len; simp at this
  | e :: r, e' :: r', n, h => by
    obtain ⟨hk, hv⟩ := h.head
    simp only [Instr.findNow, hk]
    cases hs : Instr.sameNow d k e.key with
    | none => exact .inl ⟨rfl, rfl⟩
    | some b =>
      cases b with
      | true => exact .inr ⟨_, _, rfl, rfl, rfl, hv⟩
      | false => exact findNow_rel h.tail

theorem findAsking_rel {σ : Sg} {kt : TypeId} {k : Value} : ∀ {l l' : List MapEntry} {n : Nat} {r : Option (Nat × Value)}, ER σ l l' →
    pureRun P (Instr.findAsking kt k l n) = some r → ∃ r', pureRun P (Instr.findAsking kt k l' n) = some r' ∧ FoundR σ r r'
  | [], l', n, r, h, hr => by
    have : l' = [] := by have := h.len; simp at this; exact List.eq_nil_of_length_eq_zero this.symm
    subst this
    simp only [Instr.findAsking] at hr ⊢
    have : some (none : Option (Nat × Value)) = some r := hr
    simp only [Option.some.injEq] at this
    subst this
    exact ⟨none, rfl, trivial⟩
  | e :: es, [], n, r, h, hr => by have := h.len; simp at this
  | e :: es, e' :: es', n, r, h, hr => by
    obtain ⟨hk, hv⟩ := h.head
    simp only [Instr.findAsking, hk, pureRun_bind'] at hr ⊢
    cases hq : pureRun P (Op.equal kt k e.key) with
    | none => simp [hq] at hr
    | some b =>
      simp only [hq, Option.bind_some] at hr ⊢
      cases b with
      | true =>
        have : some (some (n, e.val)) = some r := hr
        simp only [Option.some.injEq] at this
        subst this
        exact ⟨some (n, e'.val), rfl, rfl, hv⟩
      | false => exact findAsking_rel h.tail hr

theorem pureRun_underlying {t : TypeId} {d : TypeDesc} (h : pureRun P (underlying t) = some d) : P.underlying t = some d := by
  unfold underlying at h
  rw [pureRun_bind'] at h
  have hp : pureRun P program = some P := rfl
  rw [hp] at h
  simp only [Option.bind_some] at h
  cases hu : P.underlying t with
  | none => simp [hu, pureRun, stuck] at h
  | some d' => simp only [hu] at h; exact h

theorem findKey_rel {σ : Sg} {kt : TypeId} {k : Value} {l l' : List MapEntry} {r : Option (Nat × Value)} (h : ER σ l l') (hr : pureRun P (Instr.findKey kt k l) = some r) :
    ∃ r', pureRun P (Instr.findKey kt k l') = some r' ∧ FoundR σ r r' := by
  unfold Instr.findKey at hr ⊢
  rw [pureRun_bind'] at hr ⊢
  cases hu : pureRun P (underlying kt) with
  | none => simp [hu] at hr
  | some d =>
    simp only [hu, Option.bind_some] at hr ⊢
    rcases findNow_rel (d := d) (k := k) (n := 0) h with ⟨h1, h2⟩ | ⟨q, q', h1, h2, hq⟩
    · simp only [h1] at hr
      simp only [h2]
      exact findAsking_rel h hr
    · simp only [h1] at hr
      simp only [h2]
      have : some q = some r := hr
      simp only [Option.some.injEq] at this
      subst this
      exact ⟨q', rfl, hq⟩

theorem mapOf_sound {σ : Sg} {H : Heap} {w : World} {x x' : Value} {es : List MapEntry} (h : mapOf H x = some es) (hx : VR σ x x') (hf : (es.all fun e => flat e.key) = true)
    (hok : ∀ b y j, b ∈ blkOf x → σ b = some y → H.get b = some j → BlkOK σ w y j) :
    ∃ es', ER σ es es' ∧ ((x' = .map none ∧ es' = []) ∨ ∃ r clock, x' = .map (some r) ∧ w.heap[r]? = some (.map es'.toArray clock)) := by
  unfold mapOf at h
  split at h
  · simp only [Option.some.injEq] at h
    subst h
    exact ⟨[], ⟨rfl, fun i e e' a _ => by simp at a⟩, .inl ⟨hx.plain_eq rfl, rfl⟩⟩
  · rename_i b
    split at h
    · rename_i es0 hg
      simp only [Option.some.injEq] at h
      subst h
      obtain ⟨r, s, hσ, rfl⟩ := hx.map_inv
      obtain ⟨_, es', clock, hh, hl, hv⟩ := hok b _ _ (by simp [blkOf]) hσ hg
      refine ⟨es'.toList, ⟨by simpa using hl, fun i e e' a c => ?_⟩, .inr ⟨r, clock, rfl, by simpa using hh⟩⟩
      have := hv i e e' a (by simpa using c)
      exact ⟨this.1 (by have := List.all_eq_true.1 hf e (List.mem_of_getElem? a); simpa using this), this.2⟩
    · cases h
  · cases h

section
variable {dst : Option Tmp} {type : TypeId} {pos : String} {after : Array Edge} {guard : Option (Nat × Bool)} {T : Frm} {H H' : Heap} {v : Value}

theorem s_lookup {t : TypeId} {xo ko : Operand} {ok : Bool} (h : oLookup P t xo ko ok T H = some (v, H')) : OpS P ⟨dst, .lookup t xo ko ok, type, pos, after, guard⟩ T H v H' := by
  unfold oLookup at h
  split at h
  · rename_i x k hx hk
    obtain ⟨hv, rfl⟩ := keep_some h
    refine .still (fun b h => by simp [Wrs, fpOf] at h) fun σ a w hfr hlt hok => ?_
    have hrx := evO_sound hfr hx
    have hrk := evO_sound hfr hk
    unfold lookupV at hv
    split at hv
    · rename_i kt et es hu hm
      split at hv
      · rename_i hf
        simp only [Bool.and_eq_true] at hf
        obtain ⟨hfk, hfe⟩ := hf
        obtain ⟨es', hE, hmap⟩ := mapOf_sound hm hrx hfe (fun b y j hb => hok b y j (by simp [Touch, fpOf, blkO, hx, hb]))
        have ek := hrk.flat_eq hfk
        have hemp : es'.isEmpty = es.isEmpty := by
          have := hE.len
          cases es <;> cases es' <;> simp at this ⊢
        have run : ∀ (c : Unit) (r : Option (Nat × Value)), pureRun P (Instr.checkKey es.isEmpty 10000 kt k) = some c → pureRun P (Instr.findKey kt k es) = some r →
            ∃ r' : Option (Nat × Value), FoundR σ r r' ∧ ∀ v' : Value × Bool, (match r' with | some (_, v) => (.ok (v, true) w : Result (Value × Bool)) | none => ((zeroValue et).run P w).andThen fun z w => .ok (z, false) w) = .ok v' w →
              (execOp a.eval ⟨dst, .lookup t xo ko ok, type, pos, after, guard⟩).run P w = .ok (.value (if ok then .tuple #[v'.1, .bool v'.2] else v'.1)) w := by
          intro c r hc hr
          obtain ⟨r', hr', hF⟩ := findKey_rel hE hr
          refine ⟨r', hF, fun v' hv' => ?_⟩
          have h1 := pureRun_sound _ _ hc w
          have h2 := pureRun_sound _ _ hr' w
          rcases hmap with ⟨e, rfl⟩ | ⟨m, clock, e, hh⟩
          · have h3 : es = [] := by have := hE.len; exact List.eq_nil_of_length_eq_zero (by simpa using this)
            subst h3
            cases r' with
            | none =>
              simp only at hv'
              cases hz : (zeroValue et).run P w with
              | halt _ _ => simp [hz] at hv'
              | ok z w2 =>
                simp only [hz, Result.andThen_ok, Result.ok.injEq] at hv'
                obtain ⟨rfl, rfl⟩ := hv'
                simp at h1
                simp [execOp, e, ek, Instr.lookup, run_underlying hu, h1, h2, hz]
            | some q =>
              simp only [Result.ok.injEq] at hv'
              obtain ⟨rfl, -⟩ := hv'
              simp at h1
              simp [execOp, e, ek, Instr.lookup, run_underlying hu, h1, h2]
          · have hemp2 : es'.toArray.isEmpty = es.isEmpty := by rw [← hemp]; cases es' <;> rfl
            cases r' with
            | none =>
              simp only at hv'
              cases hz : (zeroValue et).run P w with
              | halt _ _ => simp [hz] at hv'
              | ok z w2 =>
                simp only [hz, Result.andThen_ok, Result.ok.injEq] at hv'
                obtain ⟨rfl, rfl⟩ := hv'
                simp [execOp, e, ek, Instr.lookup, run_underlying hu, getObj, Sem.run, hh, hemp, h1, h2, hz]
            | some q =>
              simp only [Result.ok.injEq] at hv'
              obtain ⟨rfl, -⟩ := hv'
              simp [execOp, e, ek, Instr.lookup, run_underlying hu, getObj, Sem.run, hh, hemp, h1, h2]
        split at hv
        · rename_i i v0 hc hr
          simp only [Option.some.injEq] at hv
          subst hv
          obtain ⟨r', hF, hrun⟩ := run _ _ hc hr
          cases r' with
          | none => exact hF.elim
          | some q =>
            obtain ⟨j, v0'⟩ := q
            obtain ⟨-, hv0⟩ := hF
            refine ⟨_, hrun (v0', true) rfl, ?_⟩
            cases ok with
            | false => exact hv0
            | true => exact VR.tupleL (.cons hv0 (.cons (.plain rfl) .nil))
        · rename_i hc hr
          obtain ⟨z, hz, rfl⟩ := Option.map_eq_some_iff.1 hv
          obtain ⟨hzr, hzf⟩ := zeroT_run hz w
          obtain ⟨r', hF, hrun⟩ := run _ _ hc hr
          cases r' with
          | some q => exact hF.elim
          | none =>
            refine ⟨_, hrun (z, false) (by simp [hzr]), ?_⟩
            cases ok with
            | false => exact VR.of_flat hzf
            | true => exact VR.tupleL (.cons (VR.of_flat hzf) (.cons (.plain rfl) .nil))
        · cases hv
      · cases hv
    · cases hv
  · cases h

/-- A map's entries are changed. -/
theorem LRes.putMap {σ : Sg} {H : Heap} {w w' : World} {Wr : Nat → Prop} {b r s clock' : Nat} {es : List MapEntry} {es2' : Array MapEntry} (hlt : Lt σ H w) (hσ : σ b = some (r, 0, s))
    (hw : w' = { w with heap := w.heap.setIfInBounds r (.map es2' clock') }) (hbW : Wr b) (hW1 : ∀ b', Wr b' → b' = b) (hf : H.floor ≤ b) (hwr : WR H b)
    (hlen : es.length = es2'.size) (hat : ∀ (i : Nat) (e e' : MapEntry), es[i]? = some e → es2'[i]? = some e' → (flat e.key = true → e'.key = e.key) ∧ VR σ e.val e'.val) :
    LRes σ H w σ (H.put b (some (.map es))) w' Wr := by
  subst hw
  have hrl := (hlt b _ hσ).2
  exact {
    next := Nat.le_refl _
    next1 := Nat.le_succ _
    floor := rfl
    sub := fun _ _ => rfl
    lt := fun b' x' hx' => by have := hlt b' x' hx'; exact ⟨this.1, by simpa using this.2⟩
    same := fun b' _ hn => by
      have e : b' ≠ b := fun e => hn (e ▸ hbW)
      rw [Heap.get_put, if_neg e]
    wr := fun b' _ hb' => by
      have e := hW1 b' hb'
      subst e
      exact .inr ⟨hf, hwr, .inr (by simp [WR, Heap.get_put])⟩
    ok := fun b' x' k hb' hx' hk => by
      rcases hb' with hb' | hb'
      · have e := hW1 b' hb'
        subst e
        rw [hσ] at hx'
        simp only [Option.some.injEq] at hx'; subst hx'
        rw [Heap.get_put, if_pos rfl] at hk
        simp only [Option.some.injEq] at hk; subst hk
        exact ⟨rfl, es2', clock', by simp only at hrl; simp [hrl], hlen, hat⟩
      · have := (hlt b' x' hx').1; omega
    newr := fun b' x' hb' hx' => by have := (hlt b' x' hx').1; omega
    os := rfl
    tape := rfl
    output := rfl
    size := by simp
    frame := fun r' hr' => by
      by_cases e : r' = r
      · subst e; exact .inr ⟨b, _, hbW, hf, hwr, hσ, rfl⟩
      · left
        simp only
        rw [Array.getElem?_setIfInBounds, if_neg (fun h => e h.symm)] }

theorem s_update_gen {o : Oper} {t : TypeId} {mo ko vo : Operand} (ho : o.op = .mapUpdate t mo ko vo ∨ o.op = .insert t mo ko vo) (h : oUpdate P t mo ko vo T H = some (v, H')) : OpS P o T H v H' := by
  unfold oUpdate at h
  split at h
  · rename_i m k x hm hk hx
    cases hu2 : mapUpdateV P H t m k x with
    | none => simp [hu2] at h
    | some H2 =>
      simp only [hu2, Option.map_some, Option.some.injEq, Prod.mk.injEq] at h
      obtain ⟨rfl, rfl⟩ := h
      unfold mapUpdateV at hu2
      split at hu2
      · rename_i kt et b hu
        split at hu2
        · rename_i es hg
          split at hu2
          · rename_i hc
            simp only [Bool.and_eq_true, decide_eq_true_eq] at hc
            obtain ⟨⟨hfl, hfk⟩, hfe⟩ := hc
            have hT : ∀ b', Touch T o b' ↔ b' = b := fun b' => by
              unfold Touch fpOf
              rcases ho with h | h <;> rw [h] <;> simp [blkO, hm, blkOf]
            have hW : ∀ b', Wrs T o b' ↔ b' = b := fun b' => by
              unfold Wrs fpOf
              rcases ho with h | h <;> rw [h] <;> simp [blkO, hm, blkOf]
            intro σ a w hfr hlt hok
            have hrm := evO_sound hfr hm
            have ek := (evO_sound hfr hk).flat_eq hfk
            have hrx := evO_sound hfr hx
            obtain ⟨r, s, hσ, ex⟩ := hrm.map_inv
            obtain ⟨_, es', clock, hh, hl, hv⟩ := hok b _ _ ((hT b).2 rfl) hσ hg
            simp only at hh
            have hE : ER σ es es'.toList := ⟨by simpa using hl, fun i e e' p q => by
              have := hv i e e' p (by simpa using q)
              exact ⟨this.1 (by have := List.all_eq_true.1 hfe e (List.mem_of_getElem? p); simpa using this), this.2⟩⟩
            have hexec : (execOp a.eval o).run P w = ((Instr.mapUpdate t (a.eval mo) (a.eval ko) (a.eval vo)).run P w).andThen fun _ w => .ok .skip w := by
              rcases ho with h | h <;> simp [execOp, h]
            have hwr : WR H b := by simp [WR, hg]
            split at hu2
            · rename_i i v0 hc hr
              split at hu2
              · rename_i e hei
                split at hu2
                · rename_i hsame
                  simp only [Option.some.injEq] at hu2
                  subst hu2
                  obtain ⟨r', hr', hF⟩ := findKey_rel hE hr
                  cases r' with
                  | none => exact hF.elim
                  | some q =>
                    obtain ⟨j, v0'⟩ := q
                    obtain ⟨rfl, -⟩ := hF
                    have h1 := pureRun_sound _ _ hc w
                    have h2 := pureRun_sound _ _ hr' w
                    have hi : i < es'.size := by rw [← hl]; exact (List.getElem?_eq_some_iff.1 hei).1
                    have hke := (hE.at_ i e es'[i] hei (by simp [hi])).1
                    refine ⟨.skip, undef, { w with heap := w.heap.setIfInBounds r (.map (es'.modify i fun e => { e with key := k, val := a.eval vo }) clock) }, σ, ?_, rfl, .undef, ?_⟩
                    · rw [hexec, ex, ek]
                      simp [Instr.mapUpdate, run_underlying hu, getObj, setObj, Sem.run, hh, h1, h2, Instr.keyThatStays, hi, hke, hsame]
                    · refine .putMap hlt hσ rfl ((hW b).2 rfl) (fun b' hb' => (hW b').1 hb') hfl hwr (by simp [hl]) (fun n e1 e1' p q => ?_)
                      rw [List.getElem?_set] at p
                      rw [Array.getElem?_modify] at q
                      by_cases hn : i = n
                      · subst hn
                        have hil : i < es.length := by omega
                        simp only [if_true, hil] at p
                        simp only [if_true, hi, Array.getElem?_eq_getElem, Option.map_some, Option.some.injEq] at q
                        simp only [Option.some.injEq] at p
                        subst p
                        subst q
                        exact ⟨fun _ => rfl, hrx⟩
                      · rw [if_neg hn] at p q
                        exact ⟨fun _ => (hE.at_ n e1 e1' p (by simpa using q)).1, (hE.at_ n e1 e1' p (by simpa using q)).2⟩
                · cases hu2
              · cases hu2
            · rename_i hc hr
              simp only [Option.some.injEq] at hu2
              subst hu2
              obtain ⟨r', hr', hF⟩ := findKey_rel hE hr
              cases r' with
              | some q => exact hF.elim
              | none =>
                have h1 := pureRun_sound _ _ hc w
                have h2 := pureRun_sound _ _ hr' w
                refine ⟨.skip, undef, { w with heap := w.heap.setIfInBounds r (.map (es'.push { key := k, val := a.eval vo, born := clock }) (clock + 1)) }, σ, ?_, rfl, .undef, ?_⟩
                · rw [hexec, ex, ek]
                  simp [Instr.mapUpdate, run_underlying hu, getObj, setObj, Sem.run, hh, h1, h2]
                · refine .putMap hlt hσ rfl ((hW b).2 rfl) (fun b' hb' => (hW b').1 hb') hfl hwr (by simp [hl]) (fun n e1 e1' p q => ?_)
                  rw [Array.getElem?_push] at q
                  by_cases hn : n = es'.size
                  · rw [if_pos hn] at q
                    rw [List.getElem?_append_right (by omega), show n - es.length = 0 by omega] at p
                    simp only [List.getElem?_cons_zero, Option.some.injEq] at p q
                    subst p
                    subst q
                    exact ⟨fun _ => rfl, hrx⟩
                  · rw [if_neg hn] at q
                    have hlt' := (Array.getElem?_eq_some_iff.1 q).1
                    rw [List.getElem?_append_left (by omega)] at p
                    exact ⟨fun _ => (hE.at_ n e1 e1' p (by simpa using q)).1, (hE.at_ n e1 e1' p (by simpa using q)).2⟩
            · cases hu2
          · cases hu2
        · cases hu2
      · cases hu2
  · cases h

theorem evL_two {l : List Operand} {x y : Value} (h : evL T l = some [x, y]) : ∃ xo yo, l = [xo, yo] ∧ evO T xo = some x ∧ evO T yo = some y := by
  cases l with
  | nil => simp [evL] at h
  | cons a r =>
    cases r with
    | nil => simp only [evL] at h; split at h <;> simp_all
    | cons b q =>
      cases q with
      | nil =>
        simp only [evL] at h
        cases ha : evO T a with
        | none => simp [ha] at h
        | some u =>
          cases hb : evO T b with
          | none => simp [ha, hb] at h
          | some u2 => simp [ha, hb] at h; exact ⟨a, b, rfl, by rw [ha, h.1], by rw [hb, h.2]⟩
      | cons c q2 =>
        simp only [evL] at h
        split at h
        · rename_i h1 h2
          split at h2
          · rename_i h3 h4
            split at h4
            · simp only [Option.some.injEq] at h h2 h4
              subst h4; subst h2; simp at h
            · cases h4
          · cases h2
        · cases h
theorem evL_one {l : List Operand} {x : Value} (h : evL T l = some [x]) : ∃ xo, l = [xo] ∧ evO T xo = some x := by
  cases l with
  | nil => simp [evL] at h
  | cons a r =>
    cases r with
    | nil =>
      simp only [evL] at h
      cases ha : evO T a with
      | none => simp [ha] at h
      | some u => simp [ha] at h; exact ⟨a, rfl, by rw [ha, h]⟩
    | cons b q =>
      simp only [evL] at h
      split at h
      · rename_i h1 h2
        split at h2
        · simp only [Option.some.injEq] at h h2
          subst h2; simp at h
        · cases h2
      · cases h

theorem s_builtin {b : Builtin} {args : Array Operand} {argTypes : Array TypeId} (h : oBuiltin P type b args.toList argTypes T H = some (v, H')) :
    OpS P ⟨dst, .call ⟨.builtin b, args, argTypes⟩, type, pos, after, guard⟩ T H v H' := by
  unfold oBuiltin at h
  split at h
  · rename_i vs hvs
    unfold builtinV at h
    split at h
    · obtain ⟨xo, yo, hl, hx, hy⟩ := evL_two hvs
      have : args = #[xo, yo] := by apply Array.ext'; simpa using hl
      subst this
      exact s_append hx hy h
    · obtain ⟨xo, yo, hl, hx, hy⟩ := evL_two hvs
      have : args = #[xo, yo] := by apply Array.ext'; simpa using hl
      subst this
      exact s_copy hx hy h
    · obtain ⟨xo, hl, hx⟩ := evL_one hvs
      have : args = #[xo] := by apply Array.ext'; simpa using hl
      subst this
      exact s_len hx h
    · split at h
      · exact s_max hvs (by assumption) h
      · cases h
    · split at h
      · exact s_min hvs (by assumption) h
      · cases h
    · cases h
  · cases h
end

/-- ALL OPERATIONS THAT ENTER NO FUNCTION. -/
theorem simple_sound {o : Oper} {T : Frm} {H H' : Heap} {v : Value} (h : (simpleV P o.type o.op).run T H = some (v, H')) : OpS P o T H v H' := by
  obtain ⟨dst, op, type, pos, after, guard⟩ := o
  simp only at h
  unfold simpleV at h
  split at h
  · exact s_move h
  · exact s_assign h
  · exact s_pick h
  · exact s_alloc h
  · exact s_box h
  · exact s_build h
  · exact s_buildSlice h
  · exact s_load h
  · exact s_store h
  · exact s_nil h
  · exact s_bin h
  · exact s_un h
  · exact s_conv h
  · exact s_func h
  · simp only [Option.some.injEq, Prod.mk.injEq] at h
    obtain ⟨rfl, rfl⟩ := h
    exact s_makeMap
  · exact s_makeSlice h
  · exact s_slice h
  · exact s_fieldAddr h
  · exact s_field h
  · exact s_indexAddr h
  · exact s_index h
  · exact s_lookup h
  · exact s_update_gen (.inl rfl) h
  · exact s_update_gen (.inr rfl) h
  · exact s_extract h
  · exact s_builtin h
  · cases h

end Go.Vm

namespace Go.Vm
variable {P : Program}

/-- What a call must do. -/
structure CallS (P : Program) (call : CallFn) : Prop where
  body : ∀ {f args H v H'}, call f args H = some (v, H') → ∃ fn c, P.funcs[f]? = some fn ∧ fn.body = some c
  runs : ∀ {f args H v H'}, call f args H = some (v, H') → ∀ (σ : Sg) (w : World) (args' : Array Value), LR σ args args'.toList → St σ H w →
    Calls P f args' w fun e w' => ∃ v' σ', e = .returned v' ∧ VR σ' v v' ∧ St σ' H' w' ∧ Stp σ H w σ' H' w'

/-- No function of the program is the one that the machine treats by its name. -/
def NamesOk (P : Program) : Prop := ∀ (f : Nat) fn, P.funcs[f]? = some fn → fn.body.isSome = true → (fn.name == "runtime.NumGoroutine") = false

theorem callee_inv {σ : Sg} {f f' : Value} {vs : List Value} {vs' : Array Value} {g : FuncId} {as : List Value} (h : calleeOf f vs = some (g, as)) (hf : VR σ f f') (hv : LR σ vs vs'.toList) :
    ∃ first captured, f' = .func (.func g) first captured ∧ LR σ as (first ++ vs' ++ captured).toList := by
  unfold calleeOf at h
  split at h
  · rename_i fi ca
    simp only [Option.some.injEq, Prod.mk.injEq] at h
    obtain ⟨rfl, rfl⟩ := h
    cases hf with
    | plain h => simp [plain] at h
    | func ha hc h1 h2 =>
      refine ⟨_, _, rfl, ?_⟩
      simp only [Array.toList_append]
      refine ((LR.append ?_ hv).append ?_)
      · exact ⟨by simpa using ha, fun i v v' a b => h1 i v v' (by simpa using a) (by simpa using b)⟩
      · exact ⟨by simpa using hc, fun i v v' a b => h2 i v v' (by simpa using a) (by simpa using b)⟩
  · cases h

/-- A call, met in the machine. -/
theorem call_wp {call : CallFn} (hc : CallS P call) (hN : NamesOk P) {o : Oper} {f : Operand} {args : Array Operand} {at_ : Array TypeId} (ho : o.op = .call ⟨.value f, args, at_⟩)
    {T : Frm} {H H' : Heap} {v : Value} (h : oCall f args.toList call T H = some (v, H')) {σ : Sg} {a b : Act} {w : World} (hfr : FR σ T a.tmps) (hst : St σ H w) (hab : execOp b.eval o = execOp a.eval o)
    {K : Act → World → Prop} {Q : Exit → Act → World → Prop} (hK : ∀ v' w' σ', VR σ' v v' → St σ' H' w' → Stp σ H w σ' H' w' → K (b.put o.dst v') w') : o.wp P b w K Q := by
  unfold oCall at h
  split at h
  · rename_i fv vs hf hv
    split at h
    · rename_i g as hg
      have hrf := evO_sound hfr hf
      have hrv := evL_sound hfr hv
      obtain ⟨first, captured, e, hl⟩ := callee_inv (vs' := args.map a.eval) hg hrf (by simpa using hrv)
      obtain ⟨fn, c, hfn, hb⟩ := hc.body h
      have hname : ¬ fn.name = "runtime.NumGoroutine" := by simpa using hN g fn hfn (by simp [hb])
      have hrun : (execOp a.eval o).run P w = .ok (.enter g (first ++ args.map a.eval ++ captured)) w := by
        simp [execOp, ho, resolve, e, Deferred.ofValue, invoke, callFunc, hfn, hname, hb]
      unfold Oper.wp
      rw [hab, hrun]
      refine (hc.runs h σ w _ hl hst).mono ?_
      rintro e w' ⟨v', σ', rfl, h1, h2, h3⟩
      exact hK v' w' σ' h1 h2 h3
    · cases h
  · cases h

/-- Every operation, met in the machine. -/
theorem op_wp {call : CallFn} (hc : CallS P call) (hN : NamesOk P) {o : Oper} {T : Frm} {H H' : Heap} {v : Value} (h : (opV P o).run call T H = some (v, H')) {σ : Sg} {a : Act} {w : World} (hfr : FR σ T a.tmps) (hst : St σ H w)
    {K : Act → World → Prop} {Q : Exit → Act → World → Prop} (hK : ∀ v' w' σ', VR σ' v v' → St σ' H' w' → Stp σ H w σ' H' w' → K (a.put o.dst v') w') : o.wp P a w K Q := by
  unfold opV at h
  split at h
  · rename_i f args at_ ho
    exact call_wp hc hN ho h hfr hst rfl hK
  · obtain ⟨nx, v', w', σ', hr, hn, hv, hL⟩ := simple_sound (P := P) h σ a w hfr hst.lt (fun b x k _ hx hk => hst.ok b x k hx hk)
    have hk := hK v' w' σ' hv (hL.st hst) (hL.stp hst)
    unfold Oper.wp
    rw [hr]
    cases nx with
    | value u => simp only [nxv, Option.some.injEq] at hn; subst hn; exact hk
    | skip => simp only [nxv, Option.some.injEq] at hn; subst hn; exact hk
    | _ => simp [nxv] at hn

theorem VR.bool_right {σ : Sg} {v : Value} {b : Bool} (h : VR σ v (.bool b)) : v = .bool b := by cases h; rfl

theorem yielded_eq {σ : Sg} {ops : Array Oper} {T : Frm} {a : Act} (hfr : FR σ T a.tmps) (j : Nat) : yieldedV ops.toList T j = yielded ops a.tmps j := by
  unfold yieldedV yielded
  rw [Array.getElem?_toList]
  cases hd : (ops[j]?).bind (·.dst) with
  | none => rfl
  | some t =>
    simp only [Option.bind_some]
    have h := hfr.at_ t
    rw [Array.getD_eq_getD_getElem?] at h
    cases ht : a.tmps[t]? with
    | none =>
      simp only [ht, Option.getD_none] at h
      generalize T.get t = x at h
      cases x with
      | bool b => have := h.plain_eq rfl; simp [undef] at this
      | _ => rfl
    | some y =>
      simp only [ht, Option.getD_some] at h
      generalize T.get t = x at h
      cases y with
      | bool b => rw [h.bool_right]
      | _ =>
        cases x with
        | bool b => have := h.plain_eq rfl; cases this
        | _ => rfl

theorem wanted_eq {σ : Sg} {ops : Array Oper} {T : Frm} {a : Act} (hfr : FR σ T a.tmps) (o : Oper) : wantedV ops.toList T o = Region.wanted o (yielded ops a.tmps) := by
  unfold wantedV Region.wanted
  cases o.guard with
  | none => rfl
  | some x =>
    obtain ⟨j, want⟩ := x
    simp only [yielded_eq hfr j]
    cases yielded ops a.tmps j with
    | none => rfl
    | some b => cases b <;> cases want <;> rfl

/-- The operations of a region in the order of the text. -/
theorem ops_wp {call : CallFn} (hc : CallS P call) (hN : NamesOk P) {ops : Array Oper} {Q : Exit → Act → World → Prop} : ∀ {l : List Oper} {T T' : Frm} {H H' : Heap}, (opsV P ops.toList l).run call T H = some (T', H') →
    ∀ {σ : Sg} {a : Act} {w : World}, FR σ T a.tmps → St σ H w → a.defers = [] →
    (∀ a' w' σ', FR σ' T' a'.tmps → St σ' H' w' → Stp σ H w σ' H' w' → a'.defers = [] → Q .normal a' w') → wpList P ops Q l a w
  | [], T, T', H, H', h, σ, a, w, hfr, hst, hd, hQ => by
    simp only [opsV, Option.some.injEq, Prod.mk.injEq] at h
    obtain ⟨rfl, rfl⟩ := h
    exact hQ a w σ hfr hst (.refl hst.lt) hd
  | o :: r, T, T', H, H', h, σ, a, w, hfr, hst, hd, hQ => by
    simp only [opsV, stepV] at h
    split at h
    · rename_i hw
      rw [wanted_eq hfr] at hw
      split at h
      · rename_i v H1 hop
        rw [forceV_eq] at h
        split at h
        · rename_i T1 hp
          simp only [wpList, hw, if_true]
          refine .inl (op_wp hc hN hop hfr hst fun v' w' σ' hv hst' hstp => ?_)
          exact ops_wp hc hN h ((hfr.mono (hstp.mono fun b x hb => (hst.lt b x hb).1)).put hp hv) hst' (by rw [put_defers]; exact hd) fun a2 w2 σ2 h1 h2 h3 h4 => hQ a2 w2 σ2 h1 h2 (hstp.trans h3) h4
        · cases h
      · cases h
    · rename_i hw
      rw [wanted_eq hfr] at hw
      split at h
      · rename_i T1 hp
        simp only [wpList]
        rw [if_neg hw]
        exact ops_wp hc hN h (hfr.put hp .undef) hst (by rw [put_defers]; exact hd) hQ
      · cases h

def Ex.out : Ex → Exit
  | .normal => .normal
  | .exit id => .exit id
  | .ret => .ret

/-- What is asked of a piece of code that the interpreter has run. -/
def CodeS (P : Program) (run : Frm → Heap → CodeR) (c : Code) : Prop :=
  ∀ {T H ex T' H'}, run T H = some (ex, T', H') → ∀ {σ : Sg} {a : Act} {w : World} {Q : Exit → Act → World → Prop}, FR σ T a.tmps → St σ H w → a.defers = [] →
    (∀ a' w' σ', FR σ' T' a'.tmps → St σ' H' w' → Stp σ H w σ' H' w' → a'.defers = [] → Q ex.out a' w') → c.wp P Q a w

/-- What is asked of the regions that draw their order. -/
def DrawS (P : Program) (call : CallFn) : Prop :=
  ∀ (id : Nat) (ops : Array Oper), CodeS P (fun T H => asCode (regionD P ops.toList call T H)) (.region id ops true)

theorem asCode_some {r : Option (Frm × Heap)} {ex : Ex} {T' : Frm} {H' : Heap} (h : asCode r = some (ex, T', H')) : ex = .normal ∧ r = some (T', H') := by
  cases r with
  | none => simp [asCode] at h
  | some x => simp only [asCode, Option.some.injEq, Prod.mk.injEq] at h; exact ⟨h.1.symm, by rw [← h.2.1, ← h.2.2]⟩

theorem seq_wp {x y : Code} {f g : Frm → Heap → CodeR} (hf : CodeS P f x) (hg : CodeS P g y) : CodeS P (seqV f g) (.seq x y) := by
  intro T H ex T' H' h σ a w Q hfr hst hd hQ
  unfold seqV at h
  split at h
  · rename_i T1 H1 h1
    refine wp_seq (hf h1 hfr hst hd fun a1 w1 σ1 f1 s1 p1 d1 => ?_)
    exact hg h f1 s1 d1 fun a2 w2 σ2 f2 s2 p2 d2 => hQ a2 w2 σ2 f2 s2 (p1.trans p2) d2
  · rename_i hn
    refine wp_seq (hf h hfr hst hd fun a1 w1 σ1 f1 s1 p1 d1 => ?_)
    have := hQ a1 w1 σ1 f1 s1 p1 d1
    cases ex with
    | normal => exact absurd h (hn _ _)
    | exit id => exact this
    | ret => exact this

theorem loop_wp {x : Code} {f : Frm → Heap → CodeR} (hf : CodeS P f x) : ∀ k, CodeS P (fun T H => loopV f k T H) (.loop x) := by
  intro k T H ex T' H' h σ a w Q hfr hst hd hQ
  refine wp_loop_rounds k ?_
  induction k generalizing T H σ a w with
  | zero => simp [loopV] at h
  | succ k ih =>
    simp only [loopV] at h
    rw [rounds_succ]
    split at h
    · rename_i T1 H1 h1
      refine hf h1 hfr hst hd fun a1 w1 σ1 f1 s1 p1 d1 => ?_
      exact ih h f1 s1 d1 fun a2 w2 σ2 f2 s2 p2 d2 => hQ a2 w2 σ2 f2 s2 (p1.trans p2) d2
    · rename_i hn
      refine hf h hfr hst hd fun a1 w1 σ1 f1 s1 p1 d1 => ?_
      have := hQ a1 w1 σ1 f1 s1 p1 d1
      cases ex with
      | normal => exact absurd h (hn _ _)
      | exit id => exact this
      | ret => exact this

theorem code_wp {call : CallFn} (hc : CallS P call) (hN : NamesOk P) (hD : DrawS P call) (k : Nat) : ∀ c : Code, CodeS P ((denC P c).run call k) c := by
  intro c
  induction c with
  | skip =>
    intro T H ex T' H' h σ a w Q hfr hst hd hQ
    simp only [denC, Option.some.injEq, Prod.mk.injEq] at h
    obtain ⟨rfl, rfl, rfl⟩ := h
    exact wp_skip (hQ a w σ hfr hst (.refl hst.lt) hd)
  | label l =>
    intro T H ex T' H' h σ a w Q hfr hst hd hQ
    simp only [denC, Option.some.injEq, Prod.mk.injEq] at h
    obtain ⟨rfl, rfl, rfl⟩ := h
    exact wp_label (hQ a w σ hfr hst (.refl hst.lt) hd)
  | exit id =>
    intro T H ex T' H' h σ a w Q hfr hst hd hQ
    simp only [denC, Option.some.injEq, Prod.mk.injEq] at h
    obtain ⟨rfl, rfl, rfl⟩ := h
    exact wp_exit (hQ a w σ hfr hst (.refl hst.lt) hd)
  | ret =>
    intro T H ex T' H' h σ a w Q hfr hst hd hQ
    simp only [denC, Option.some.injEq, Prod.mk.injEq] at h
    obtain ⟨rfl, rfl, rfl⟩ := h
    exact wp_ret (hQ a w σ hfr hst (.refl hst.lt) hd)
  | seq x y ihx ihy => exact seq_wp ihx ihy
  | cond x t e iht ihe =>
    intro T H ex T' H' h σ a w Q hfr hst hd hQ
    simp only [denC, condV] at h
    split at h
    · rename_i b hx
      have hb := (evO_sound hfr hx).bool_inv
      cases b with
      | true => exact wp_cond hb (iht h hfr hst hd hQ)
      | false => exact wp_cond hb (ihe h hfr hst hd hQ)
    · cases h
  | block id b ih =>
    intro T H ex T' H' h σ a w Q hfr hst hd hQ
    simp only [denC, blockV] at h
    split at h
    · rename_i i T1 H1 h1
      refine wp_block (ih h1 hfr hst hd fun a1 w1 σ1 f1 s1 p1 d1 => ?_)
      simp only [Ex.out, Exit.inBlock]
      split at h
      · rename_i hi
        rw [beq_dec] at hi
        simp only [Option.some.injEq, Prod.mk.injEq] at h
        obtain ⟨rfl, rfl, rfl⟩ := h
        rw [if_pos (by simpa using hi)]
        exact hQ a1 w1 σ1 f1 s1 p1 d1
      · rename_i hi
        rw [beq_dec] at hi
        simp only [Option.some.injEq, Prod.mk.injEq] at h
        obtain ⟨rfl, rfl, rfl⟩ := h
        rw [if_neg (by simpa using hi)]
        exact hQ a1 w1 σ1 f1 s1 p1 d1
    · rename_i hn
      refine wp_block (ih h hfr hst hd fun a1 w1 σ1 f1 s1 p1 d1 => ?_)
      have := hQ a1 w1 σ1 f1 s1 p1 d1
      cases ex with
      | normal => exact this
      | exit id => exact absurd h (hn _ _ _)
      | ret => exact this
  | loop b ih => exact loop_wp ih k
  | scope b ih =>
    intro T H ex T' H' h σ a w Q hfr hst hd hQ
    simp only [denC] at h
    refine wp_scope_straight (ih h hfr hst hd fun a1 w1 σ1 f1 s1 p1 d1 => ?_)
    have := hQ a1 w1 σ1 f1 s1 p1 d1
    cases ex <;> exact this
  | region id ops draw =>
    cases draw with
    | true => exact hD id ops
    | false =>
      intro T H ex T' H' h σ a w Q hfr hst hd hQ
      simp only [denC] at h
      obtain ⟨rfl, h2⟩ := asCode_some h
      exact wp_region_list (ops_wp hc hN h2 hfr hst hd fun a' w' σ' f1 s1 p1 d1 => hQ a' w' σ' f1 s1 p1 d1)
  | goto l => intro T H ex T' H' h; simp [denC] at h
  | rangeFunc f ps x y => intro T H ex T' H' h; simp [denC] at h
  | refuse why => intro T H ex T' H' h; simp [denC] at h

/-! ### Calls -/
theorem argsT_get : ∀ (vs : List Value) (t : PT Value) (i j : Nat), (argsT t i vs).get j = if i ≤ j ∧ j < i + vs.length then vs[j - i]? else t.get j
  | [], t, i, j => by simp [argsT]; intro h1 h2; omega
  | v :: r, t, i, j => by
    simp only [argsT, argsT_get r, PT.get_set, List.length_cons]
    by_cases h1 : i + 1 ≤ j ∧ j < i + 1 + r.length
    · have h2 : i ≤ j ∧ j < i + (r.length + 1) := by omega
      rw [if_pos h1, if_pos h2, show j - i = (j - (i + 1)) + 1 by omega]
      simp
    · rw [if_neg h1]
      by_cases h3 : j = i
      · subst h3
        have h2 : j ≤ j ∧ j < j + (r.length + 1) := by omega
        rw [if_pos rfl, if_pos h2]
        simp
      · have h2 : ¬ (i ≤ j ∧ j < i + (r.length + 1)) := by omega
        rw [if_neg h3, if_neg h2]

theorem FR.enter {σ : Sg} {args : List Value} {args' : Array Value} {n : Nat} (hl : LR σ args args'.toList) (hn : args.length ≤ n) :
    FR σ ⟨argsT .leaf 0 args, n⟩ (args' ++ Array.replicate (n - args'.size) undef) := by
  have hsz := hl.len
  simp only [Array.length_toList] at hsz
  refine ⟨by simp; omega, fun i => ?_⟩
  simp only [Frm.get, argsT_get, PT.get_leaf, Array.getD_eq_getD_getElem?, Nat.zero_add, Nat.sub_zero, Nat.zero_le, true_and]
  by_cases hi : i < args.length
  · rw [if_pos hi, Array.getElem?_append_left (by omega)]
    have h1 : args[i]? = some args[i] := by simp [hi]
    have h2 : args'[i]? = some (args'[i]'(by omega)) := by simp [show i < args'.size by omega]
    rw [h1, h2]
    exact hl.at_ i _ _ h1 (by simp)
  · rw [if_neg hi, Array.getElem?_append_right (by omega)]
    rw [Array.getElem?_replicate]
    split <;> exact VR.undef

theorem resultV_sound {σ : Sg} {T : Frm} {H : Heap} {w : World} {tmps : Array Value} (hfr : FR σ T tmps) (hst : St σ H w) {r : ResultVar} {v : Value} (h : resultV P T H r = some v) :
    ∃ v', ((match r with
      | .tmp t => pure (tmps.getD t undef)
      | .cell a t => do loadVar t (← asAddr (tmps.getD a undef)) : Sem Value)).run P w = .ok v' w ∧ VR σ v v' := by
  cases r with
  | tmp t =>
    simp only [resultV, Option.some.injEq] at h
    subst h
    exact ⟨_, rfl, hfr.at_ t⟩
  | cell a t =>
    simp only [resultV] at h
    split at h
    · rename_i ad had
      obtain ⟨he, hsp⟩ := addrOf_some had
      have hr := hfr.at_ a
      rw [he] at hr
      obtain ⟨b, off, rr, d, s, rfl, hσ, e⟩ := hr.ptr_inv
      obtain ⟨v', hrun, hv⟩ := loadV_sound h hσ (fun k hk => hst.ok b _ k hσ hk)
      exact ⟨v', by simp only [e, asAddr]; simpa using hrun, hv⟩
    · cases h

theorem resultsV_sound {σ : Sg} {T : Frm} {H : Heap} {w : World} {tmps : Array Value} (hfr : FR σ T tmps) (hst : St σ H w) : ∀ {rs : List ResultVar} {vs : List Value}, resultsV P T H rs = some vs →
    ∃ vs', (rs.mapM fun r => (match r with
      | .tmp t => pure (tmps.getD t undef)
      | .cell a t => do loadVar t (← asAddr (tmps.getD a undef)) : Sem Value)).run P w = .ok vs' w ∧ LR σ vs vs'
  | [], vs, h => by simp only [resultsV, Option.some.injEq] at h; subst h; exact ⟨[], rfl, .nil⟩
  | r :: rs, vs, h => by
    simp only [resultsV] at h
    split at h
    · rename_i v us hv hus
      simp only [Option.some.injEq] at h
      subst h
      obtain ⟨v', h1, h2⟩ := resultV_sound hfr hst hv
      obtain ⟨us', h3, h4⟩ := resultsV_sound hfr hst hus
      refine ⟨v' :: us', ?_, .cons h2 h4⟩
      simp only [List.mapM_cons, Sem.run_bind, h1, h3, Result.andThen_ok, Sem.run_pure]
    · cases h

/-- One call, those that it makes in its turn going by 'call'. -/
def stepC (P : Program) (call : CallFn) (k : Nat) : CallFn := fun f args H => (denF P f).run call k args H

theorem step_sound (hN : NamesOk P) (k : Nat) {call : CallFn} (ih : CallS P call) (hD : DrawS P call) : CallS P (stepC P call k) := by
  have nth_eq : ∀ (l : List Func) (i : Nat), nth l i = l[i]? := by
    intro l
    induction l with
    | nil => intro i; cases i <;> rfl
    | cons x r ihl => intro i; cases i with
      | zero => rfl
      | succ i => simp [nth, ihl]
  have key : ∀ {f args H v H'}, stepC P call k f args H = some (v, H') → ∃ fn c, P.funcs[f]? = some fn ∧ fn.body = some c ∧ args.length ≤ fn.ntmps ∧
      retV P fn.results.toList ((denC P c).run call k ⟨argsT .leaf 0 args, fn.ntmps⟩ H) = some (v, H') := by
    intro f args H v H' h
    simp only [stepC, denF] at h
    rw [nth_eq, Array.getElem?_toList] at h
    cases hf : P.funcs[f]? with
    | none => simp [hf] at h
    | some fn =>
      simp only [hf] at h
      cases hb : fn.body with
      | none => simp [hb] at h
      | some c =>
        simp only [hb] at h
        split at h
        · exact ⟨fn, c, rfl, hb, by assumption, h⟩
        · cases h
  refine ⟨fun h => let ⟨fn, c, h1, h2, _⟩ := key h; ⟨fn, c, h1, h2⟩, fun {f args H v H'} h σ w args' hl hst => ?_⟩
  obtain ⟨fn, c, hf, hb, hn, hr⟩ := key h
  refine calls_of_wp hf hb ?_
  unfold retV at hr
  have fin : ∀ {ex T H2}, (denC P c).run call k ⟨argsT .leaf 0 args, fn.ntmps⟩ H = some (ex, T, H2) → (∀ id, ex ≠ .exit id) →
      (match resultsV P T H2 fn.results.toList with
        | some [v] => some (v, H2)
        | some vs => some (.tuple vs.toArray, H2)
        | none => none) = some (v, H') → c.wp P (bodyPost P fn fun e w' => ∃ v' σ', e = .returned v' ∧ VR σ' v v' ∧ St σ' H' w' ∧ Stp σ H w σ' H' w')
        { tmps := args' ++ Array.replicate (fn.ntmps - args'.size) undef, defers := [] } w := by
    intro ex T H2 hrun hex hres
    refine code_wp ih hN (hD) k c hrun (FR.enter hl hn) hst rfl fun a' w' σ' f1 s1 p1 d1 => ?_
    cases hvs : resultsV P T H2 fn.results.toList with
    | none => simp [hvs] at hres
    | some vs =>
      obtain ⟨vs', h1, h2⟩ := resultsV_sound f1 s1 hvs
      have hrr : (results fn a'.tmps).run P w' = .ok (if h : vs'.toArray.size = 1 then vs'.toArray[0] else .tuple vs'.toArray) w' := by
        unfold results
        rw [Array.mapM_eq_mapM_toList]
        simp only [Sem.run_bind, Sem.run_map]
        erw [h1]
        rfl
      simp only [hvs] at hres
      have hout : ∃ v', (if h : vs'.toArray.size = 1 then vs'.toArray[0] else .tuple vs'.toArray) = v' ∧ VR σ' v v' ∧ H2 = H' := by
        cases vs with
        | nil =>
          have : vs' = [] := by have := h2.len; exact List.eq_nil_of_length_eq_zero (by simpa using this.symm)
          subst this
          simp only [Option.some.injEq, Prod.mk.injEq] at hres
          obtain ⟨rfl, rfl⟩ := hres
          exact ⟨_, rfl, by simp; exact VR.tupleL h2, rfl⟩
        | cons x r =>
          cases vs' with
          | nil => have := h2.len; simp at this
          | cons x' r' =>
            cases r with
            | nil =>
              have : r' = [] := by have := h2.tail.len; exact List.eq_nil_of_length_eq_zero (by simpa using this.symm)
              subst this
              simp only [Option.some.injEq, Prod.mk.injEq] at hres
              obtain ⟨rfl, rfl⟩ := hres
              exact ⟨_, rfl, by simp; exact h2.head, rfl⟩
            | cons y q =>
              cases r' with
              | nil => have := h2.tail.len; simp at this
              | cons y' q' =>
                simp only [Option.some.injEq, Prod.mk.injEq] at hres
                obtain ⟨rfl, rfl⟩ := hres
                exact ⟨_, rfl, by simp; exact VR.tupleL h2, rfl⟩
      obtain ⟨v', he, hv', rfl⟩ := hout
      rw [he] at hrr
      have hpost : a'.defers = [] ∧ ∃ v, (results fn a'.tmps).run P w' = .ok v w' ∧ (∃ v'' σ', Ending.returned v = .returned v'' ∧ VR σ' _ v'' ∧ St σ' H2 w' ∧ Stp σ H w σ' H2 w') := ⟨d1, v', hrr, v', σ', rfl, hv', s1, p1⟩
      cases ex with
      | normal => exact hpost
      | ret => exact hpost
      | exit id => exact absurd rfl (hex id)
  split at hr
  · cases hr
  · rename_i ex T H2 hne hrun
    exact fin hrun (fun id e => hne id e) hr
  · cases hr

theorem callV_sound (hN : NamesOk P) (k : Nat) (hD : ∀ n, CallS P (callV P k n) → DrawS P (callV P k n)) : ∀ n, CallS P (callV P k n)
  | 0 => ⟨fun h => by simp [callV] at h, fun h => by simp [callV] at h⟩
  | n + 1 => step_sound hN k (callV_sound hN k hD n) (hD n (callV_sound hN k hD n))
end Go.Vm

namespace Go.Vm
variable {P : Program}

/-! ### What an operation looks at -/
theorem evO_congr {T T' : Frm} {x : Operand} (h : ∀ t, x = .tmp t → T.get t = T'.get t) : evO T x = evO T' x := by
  cases x with
  | tmp t => simp only [evO, h t rfl]
  | _ => rfl
theorem evL_congr {T T' : Frm} : ∀ {l : List Operand}, (∀ t, Operand.tmp t ∈ l → T.get t = T'.get t) → evL T l = evL T' l
  | [], _ => rfl
  | x :: r, h => by
    simp only [evL]
    rw [evO_congr (x := x) fun t e => h t (by simp [e]), evL_congr (l := r) fun t ht => h t (by simp [ht])]
theorem evParts_congr {T T' : Frm} : ∀ {l : List (Nat × Operand)}, (∀ t, Operand.tmp t ∈ l.map (·.2) → T.get t = T'.get t) → evParts T l = evParts T' l
  | [], _ => rfl
  | (i, x) :: r, h => by
    simp only [evParts]
    rw [evO_congr (x := x) fun t e => h t (by simp [e]), evParts_congr (l := r) fun t ht => h t (by simp at ht ⊢; exact .inr ht)]
theorem evM_congr {T T' : Frm} {x : Option Operand} (h : ∀ t, x = some (.tmp t) → T.get t = T'.get t) : evM T x = evM T' x := by
  cases x with
  | none => rfl
  | some x => simp only [evM]; rw [evO_congr fun t e => h t (by simp [e])]

def Agree (o : Oper) (T T' : Frm) : Prop := ∀ t, Operand.tmp t ∈ o.op.operands.toList → T.get t = T'.get t

theorem simple_congr {o : Oper} {T T' : Frm} (h : Agree o T T') (H : Heap) : (simpleV P o.type o.op).run T H = (simpleV P o.type o.op).run T' H := by
  obtain ⟨dst, op, type, pos, after, guard⟩ := o
  unfold Agree at h
  simp only at h ⊢
  unfold simpleV
  split <;> simp only [Op.operands, Call.operands] at h
  all_goals first
    | rfl
    | (simp only [oMove, oPick, oBox, oLoad, oStore, oNil, oBin, oUn, oConv, oMakeSlice, oFieldAddr, oField, oIndexAddr, oIndex, oLookup, oUpdate, oExtract]
       repeat (rw [evO_congr (T := T) (T' := T') fun t e => h t (by simp [e])])
       done)
    | (simp only [oBuild, oBuildSlice]; rw [evParts_congr (T := T) (T' := T') fun t ht => h t (by simpa using ht)])
    | (simp only [oFunc]; rw [evL_congr (T := T) (T' := T') fun t ht => h t (by simp; exact .inl (by simpa using ht)), evL_congr (T := T) (T' := T') fun t ht => h t (by simp; exact .inr (by simpa using ht))])
    | (simp only [oSlice]
       rw [evO_congr (T := T) (T' := T') fun t e => h t (by simp [e]), evM_congr (T := T) (T' := T') fun t e => h t (by simp [e]), evM_congr (T := T) (T' := T') fun t e => h t (by simp [e]), evM_congr (T := T) (T' := T') fun t e => h t (by simp [e])])
    | (simp only [oBuiltin]; rw [evL_congr (T := T) (T' := T') fun t ht => h t (by simpa using ht)])

theorem op_congr {o : Oper} {T T' : Frm} (h : Agree o T T') (call : CallFn) (H : Heap) : (opV P o).run call T H = (opV P o).run call T' H := by
  unfold opV
  split
  · rename_i f args at_ ho
    unfold Agree at h
    simp only [ho, Op.operands, Call.operands] at h
    simp only [oCall]
    rw [evO_congr (T := T) (T' := T') fun t e => h t (by simp [e]), evL_congr (T := T) (T' := T') fun t ht => h t (by simp; exact .inr (by simpa using ht))]
  · exact simple_congr h H

theorem blkO_congr {T T' : Frm} {x : Operand} (h : ∀ t, x = .tmp t → T.get t = T'.get t) : blkO T x = blkO T' x := by unfold blkO; rw [evO_congr h]
theorem flat_congr {T T' : Frm} : ∀ {l : List Operand}, (∀ t, Operand.tmp t ∈ l → T.get t = T'.get t) → l.flatMap (blkO T) = l.flatMap (blkO T')
  | [], _ => rfl
  | x :: r, h => by
    simp only [List.flatMap_cons]
    rw [blkO_congr (x := x) fun t e => h t (by simp [e]), flat_congr (l := r) fun t ht => h t (by simp [ht])]

theorem fp_congr {o : Oper} {T T' : Frm} (h : Agree o T T') : fpOf T o = fpOf T' o := by
  obtain ⟨dst, op, type, pos, after, guard⟩ := o
  unfold Agree at h
  simp only at h
  unfold fpOf
  simp only
  split <;> simp only [Op.operands, Call.operands] at h
  all_goals first
    | rfl
    | (repeat (rw [blkO_congr (T := T) (T' := T') fun t e => h t (by simp [e])])
       done)
    | (rename_i args _
       have h' : ∀ t, Operand.tmp t ∈ args.toList → T.get t = T'.get t := fun t ht => h t (by simpa using ht)
       rw [flat_congr (l := args.toList.drop 1) fun t ht => h' t (List.mem_of_mem_drop ht), flat_congr (l := args.toList.take 1) fun t ht => h' t (List.mem_of_mem_take ht)])
    | (rw [flat_congr (T := T) (T' := T') fun t ht => h t (by simpa using ht)])

/-! ### What an operation leaves alone -/
structure VF (H H' : Heap) (wr : Nat → Prop) : Prop where
  next : H.next ≤ H'.next
  floor : H'.floor = H.floor
  same : ∀ b, b < H.next → ¬ wr b → H'.get b = H.get b
  low : ∀ b, b < H.next → b < H.floor → H'.get b = H.get b
  alive : ∀ b, b < H.next → H.get b = none → H'.get b = none
  wrk : ∀ b, b < H.next → WR H' b → WR H b

theorem VF.refl {H : Heap} {wr : Nat → Prop} : VF H H wr := ⟨Nat.le_refl _, rfl, fun _ _ _ => rfl, fun _ _ _ => rfl, fun _ _ h => h, fun _ _ h => h⟩
theorem VF.trans {H H1 H2 : Heap} {wr : Nat → Prop} (h : VF H H1 wr) (k : VF H1 H2 wr) : VF H H2 wr where
  next := Nat.le_trans h.next k.next
  floor := k.floor.trans h.floor
  same b hb hw := (k.same b (Nat.lt_of_lt_of_le hb h.next) hw).trans (h.same b hb hw)
  low b hb hf := (k.low b (Nat.lt_of_lt_of_le hb h.next) (h.floor ▸ hf)).trans (h.low b hb hf)
  alive b hb hn := k.alive b (Nat.lt_of_lt_of_le hb h.next) (h.alive b hb hn)
  wrk b hb hw := h.wrk b hb (k.wrk b (Nat.lt_of_lt_of_le hb h.next) hw)
theorem VF.mono {H H' : Heap} {wr wr' : Nat → Prop} (h : VF H H' wr) (hw : ∀ b, wr b → wr' b) : VF H H' wr' :=
  ⟨h.next, h.floor, fun b hb hn => h.same b hb fun h => hn (hw b h), h.low, h.alive, h.wrk⟩

theorem VF.new {H : Heap} {k : Blk} {wr : Nat → Prop} : VF H (H.new k) wr := by
  have e : ∀ b, b < H.next → (H.new k).get b = H.get b := fun b hb => by rw [Heap.get_new, if_neg (by omega)]
  exact ⟨by simp [Heap.new], rfl, fun b hb _ => e b hb, fun b hb _ => e b hb, fun b hb hn => by rw [e b hb, hn], fun b hb hw => (WR.congr (e b hb)).1 hw⟩

theorem VF.put {H : Heap} {b : Nat} {k : Option Blk} {wr : Nat → Prop} (hw : wr b) (hf : H.floor ≤ b) (hwr : WR H b) : VF H (H.put b k) wr where
  next := Nat.le_refl _
  floor := rfl
  same i _ hn := by rw [Heap.get_put, if_neg (fun e => hn (by rw [e]; exact hw))]
  low i _ hi := by rw [Heap.get_put, if_neg (fun e => by omega)]
  alive i _ hn := by
    rw [Heap.get_put]
    split
    · rename_i e; subst e; obtain ⟨k, hk⟩ := hwr.some; rw [hn] at hk; cases hk
    · exact hn
  wrk i _ hi := by
    by_cases e : i = b
    · subst e; exact hwr
    · exact (WR.congr (by rw [Heap.get_put, if_neg e])).1 hi

theorem putCells_vf {H H' : Heap} {a : Addr} {vs : List Value} {wr : Nat → Prop} (h : putCells H a vs = some H') (hw : wr a.block) : VF H H' wr := by
  obtain ⟨_, cs, lo, hg, _, hf, _, rfl⟩ := putCells_some h
  exact .put hw hf (by simp [WR, hg])

theorem keep_vf {H H' : Heap} {v : Option Value} {u : Value} {wr : Nat → Prop} (h : keep H v = some (u, H')) : VF H H' wr := by
  obtain ⟨_, rfl⟩ := keep_some h; exact .refl

theorem alloc_vf {H H' : Heap} {cs : List Value} {lo : Option Nat} {f : Nat → Value} {u : Value} {wr : Nat → Prop} (h : (allocK H cs lo fun b H' => some (f b, H')) = some (u, H')) : VF H H' wr := by
  rw [allocK_eq] at h
  simp only [Option.some.injEq, Prod.mk.injEq] at h
  obtain ⟨_, rfl⟩ := h
  exact .new

theorem append_vf {H H' : Heap} {ts : Array TypeId} {s x v : Value} {wr : Nat → Prop} (h : appendV P H ts s x = some (v, H')) (hw : ∀ b, b ∈ blkOf s → wr b) : VF H H' wr := by
  unfold appendV at h
  split at h
  · split at h
    · cases h
    · split at h
      · rename_i e _ _ _ _ _ i base n cap _
        split at h
        · split at h
          · split at h
            · rename_i ad
              split at h
              · simp only [Option.some.injEq, Prod.mk.injEq] at h; obtain ⟨_, rfl⟩ := h; exact .refl
              · obtain ⟨H2, hp, he⟩ := Option.map_eq_some_iff.1 h
                simp only [Prod.mk.injEq] at he
                obtain ⟨_, rfl⟩ := he
                exact putCells_vf hp (hw _ (by simp [blkOf]))
            · split at h
              · simp only [Option.some.injEq, Prod.mk.injEq] at h; obtain ⟨_, rfl⟩ := h; exact .refl
              · cases h
          · split at h
            · split at h
              · split at h
                · exact alloc_vf h
                · cases h
              · rename_i ad
                split at h
                · split at h
                  · exact alloc_vf h
                  · cases h
                · rename_i cs z _ hg
                  split at h
                  · rename_i hc
                    exact VF.trans (.put (hw _ (by simp [blkOf])) hc.2.2.2.1 (by simp [WR, hg])) (alloc_vf h)
                  · cases h
                · cases h
            · cases h
        · cases h
      · cases h
  · cases h

theorem copy_vf {H H' : Heap} {ts : Array TypeId} {s x v : Value} {wr : Nat → Prop} (h : copyV P H ts s x = some (v, H')) (hw : ∀ b, b ∈ blkOf s → wr b) : VF H H' wr := by
  unfold copyV at h
  split at h
  · split at h
    · split at h
      · cases h
      · split at h
        · split at h
          · obtain ⟨H2, hp, he⟩ := Option.map_eq_some_iff.1 h
            simp only [Prod.mk.injEq] at he
            obtain ⟨_, rfl⟩ := he
            exact putCells_vf hp (hw _ (by simp [blkOf]))
          · simp only [Option.some.injEq, Prod.mk.injEq] at h; obtain ⟨_, rfl⟩ := h; exact .refl
          · cases h
        · simp only [Option.some.injEq, Prod.mk.injEq] at h; obtain ⟨_, rfl⟩ := h; exact .refl
        · cases h
    · cases h
  · cases h

theorem update_vf {H H' : Heap} {T : Frm} {t : TypeId} {m k x : Operand} {v : Value} {wr : Nat → Prop} (h : oUpdate P t m k x T H = some (v, H')) (hw : ∀ r, evO T m = some (.map (some r)) → wr r) : VF H H' wr := by
  unfold oUpdate at h
  split at h
  · rename_i mv kv xv hm hk hx
    obtain ⟨H2, hu, he⟩ := Option.map_eq_some_iff.1 h
    simp only [Prod.mk.injEq] at he
    obtain ⟨_, rfl⟩ := he
    unfold mapUpdateV at hu
    split at hu
    · rename_i r _
      split at hu
      · rename_i es hg
        split at hu
        · rename_i hc
          simp only [Bool.and_eq_true, decide_eq_true_eq] at hc
          have hwr : WR H r := by simp [WR, hg]
          split at hu
          · split at hu
            · split at hu
              · simp only [Option.some.injEq] at hu; subst hu; exact .put (hw _ hm) hc.1.1 hwr
              · cases hu
            · cases hu
          · simp only [Option.some.injEq] at hu; subst hu; exact .put (hw _ hm) hc.1.1 hwr
          · cases hu
        · cases hu
      · cases hu
    · cases hu
  · cases h

theorem simple_vf {o : Oper} {T : Frm} {H H' : Heap} {v : Value} (h : (simpleV P o.type o.op).run T H = some (v, H')) : VF H H' (Wrs T o) := by
  obtain ⟨dst, op, type, pos, after, guard⟩ := o
  simp only at h
  unfold simpleV at h
  split at h
  case h_3 => replace h : oPick _ _ _ T H = some (v, H') := h; unfold oPick at h; split at h <;> first | (cases h; done) | (simp only [Option.some.injEq, Prod.mk.injEq] at h; obtain ⟨_, rfl⟩ := h; exact .refl)
  case h_4 => replace h : oAlloc P _ H = some (v, H') := h; unfold oAlloc at h; split at h <;> first | (cases h; done) | exact alloc_vf h
  case h_5 =>
    replace h : oBox _ T H = some (v, H') := h
    unfold oBox at h
    split at h
    · split at h
      · exact alloc_vf h
      · cases h
    · cases h
  case h_6 => replace h : oBuild P _ _ T H = some (v, H') := h; unfold oBuild at h; split at h <;> first | (cases h; done) | exact keep_vf h
  case h_7 =>
    replace h : oBuildSlice P _ _ _ T H = some (v, H') := h
    unfold oBuildSlice buildSliceV at h
    repeat' (split at h)
    all_goals first | (cases h; done) | exact alloc_vf h
  case h_8 => replace h : oLoad P _ _ T H = some (v, H') := h; unfold oLoad at h; split at h <;> first | (cases h; done) | exact keep_vf h
  case h_9 =>
    rename_i t a x
    replace h : oStore P _ _ _ T H = some (v, H') := h
    unfold oStore at h
    split at h
    · rename_i ad u ha hu
      obtain ⟨hx, hsp⟩ := bind_addr ha
      obtain ⟨H2, hs, he⟩ := Option.map_eq_some_iff.1 h
      simp only [Prod.mk.injEq] at he
      obtain ⟨_, rfl⟩ := he
      unfold storeV at hs
      split at hs
      · split at hs
        · exact putCells_vf hs (by simp [Wrs, fpOf, blkO, hx, blkOf])
        · cases hs
      · cases hs
    · cases h
  case h_11 => replace h : oBin P _ _ _ _ T H = some (v, H') := h; unfold oBin at h; split at h <;> first | (cases h; done) | exact keep_vf h
  case h_12 =>
    replace h : oUn P _ _ T H = some (v, H') := h
    unfold oUn at h
    split at h
    · split at h
      · exact keep_vf h
      · cases h
    · cases h
  case h_13 =>
    replace h : oConv P _ _ _ T H = some (v, H') := h
    unfold oConv convV at h
    repeat' (split at h)
    all_goals first
      | (cases h; done)
      | exact alloc_vf h
      | exact keep_vf h
      | (simp only [Option.some.injEq, Prod.mk.injEq] at h; obtain ⟨_, rfl⟩ := h; exact .refl)
  case h_14 => replace h : oFunc _ _ _ T H = some (v, H') := h; unfold oFunc at h; split at h <;> first | (cases h; done) | (simp only [Option.some.injEq, Prod.mk.injEq] at h; obtain ⟨_, rfl⟩ := h; exact .refl)
  case h_15 => simp only [Option.some.injEq, Prod.mk.injEq] at h; obtain ⟨_, rfl⟩ := h; exact .new
  case h_16 =>
    replace h : oMakeSlice P _ _ _ T H = some (v, H') := h
    unfold oMakeSlice makeSliceV at h
    repeat' (split at h)
    all_goals first | (cases h; done) | exact alloc_vf h
  case h_17 => replace h : oSlice P _ _ _ _ _ T H = some (v, H') := h; unfold oSlice at h; split at h <;> first | (cases h; done) | exact keep_vf h
  case h_18 => replace h : oFieldAddr P _ _ _ T H = some (v, H') := h; unfold oFieldAddr at h; split at h <;> first | (cases h; done) | exact keep_vf h
  case h_19 => replace h : oField P _ _ _ T H = some (v, H') := h; unfold oField at h; split at h <;> first | (cases h; done) | exact keep_vf h
  case h_20 => replace h : oIndexAddr P _ _ _ T H = some (v, H') := h; unfold oIndexAddr at h; split at h <;> first | (cases h; done) | exact keep_vf h
  case h_21 => replace h : oIndex P _ _ _ T H = some (v, H') := h; unfold oIndex at h; split at h <;> first | (cases h; done) | exact keep_vf h
  case h_22 => replace h : oLookup P _ _ _ _ T H = some (v, H') := h; unfold oLookup at h; split at h <;> first | (cases h; done) | exact keep_vf h
  case h_25 => replace h : oExtract _ _ T H = some (v, H') := h; unfold oExtract at h; split at h <;> first | (cases h; done) | exact keep_vf h
  case h_27 => cases h
  case h_1 => exact keep_vf h
  case h_2 => exact keep_vf h
  case h_10 => exact keep_vf h
  case h_26 =>
    rename_i b args argTypes
    replace h : oBuiltin P type _ _ _ T H = some (v, H') := h
    unfold oBuiltin at h
    split at h
    · rename_i vs hvs
      unfold builtinV at h
      split at h
      · obtain ⟨xo, yo, hl, hx, hy⟩ := evL_two hvs
        have : args = #[xo, yo] := by apply Array.ext'; simpa using hl
        subst this
        exact append_vf h (fun b hb => by simp [Wrs, fpOf, blkO, hx]; exact hb)
      · obtain ⟨xo, yo, hl, hx, hy⟩ := evL_two hvs
        have : args = #[xo, yo] := by apply Array.ext'; simpa using hl
        subst this
        exact copy_vf h (fun b hb => by simp [Wrs, fpOf, blkO, hx]; exact hb)
      · exact keep_vf h
      · split at h
        · exact keep_vf h
        · cases h
      · split at h
        · exact keep_vf h
        · cases h
      · cases h
    · cases h
  case h_23 =>
    rename_i t m k x
    replace h : oUpdate P t m k x T H = some (v, H') := h
    exact update_vf h (fun r hm => by simp [Wrs, fpOf, blkO, hm, blkOf])
  case h_24 =>
    rename_i t m k x
    replace h : oUpdate P t m k x T H = some (v, H') := h
    exact update_vf h (fun r hm => by simp [Wrs, fpOf, blkO, hm, blkOf])

/-! ### What code and calls leave alone -/
def CallVF (call : CallFn) : Prop := ∀ {f args H v H'}, call f args H = some (v, H') → VF H H' fun _ => True

theorem op_vf {call : CallFn} (hc : CallVF call) {o : Oper} {T : Frm} {H H' : Heap} {v : Value} (h : (opV P o).run call T H = some (v, H')) : VF H H' fun _ => True := by
  unfold opV at h
  split at h
  · replace h : oCall _ _ call T H = some (v, H') := h
    unfold oCall at h
    split at h
    · split at h
      · exact hc h
      · cases h
    · cases h
  · exact (simple_vf (P := P) h).mono fun _ _ => trivial

theorem ops_vf {call : CallFn} (hc : CallVF call) {ops : List Oper} : ∀ {l : List Oper} {T T' : Frm} {H H' : Heap}, (opsV P ops l).run call T H = some (T', H') → VF H H' fun _ => True
  | [], T, T', H, H', h => by simp only [opsV, Option.some.injEq, Prod.mk.injEq] at h; obtain ⟨_, rfl⟩ := h; exact .refl
  | o :: r, T, T', H, H', h => by
    simp only [opsV, stepV] at h
    split at h
    · split at h
      · rename_i v H1 hop
        rw [forceV_eq] at h
        split at h
        · exact (op_vf hc hop).trans (ops_vf hc h)
        · cases h
      · cases h
    · split at h
      · exact ops_vf hc h
      · cases h

theorem VF.quiet {H H' : Heap} (h : VF { H with floor := H.next } H' fun _ => True) : VF H { H' with floor := H.floor } fun _ => False where
  next := h.next
  floor := rfl
  same b hb _ := h.low b hb hb
  low b hb _ := h.low b hb hb
  alive := h.alive
  wrk := h.wrk

theorem opsD_vf {call : CallFn} (hc : CallVF call) {ops : List Oper} {bs : List Nat} : ∀ {l : List Oper} {i : Nat} {T T' : Frm} {H H' : Heap} {fs fs' : List Fp},
    (opsD P ops bs l i).run call T H fs = some (T', H', fs') → VF H H' fun _ => True
  | [], i, T, T', H, H', fs, fs', h => by simp only [opsD, Option.some.injEq, Prod.mk.injEq] at h; obtain ⟨_, rfl, _⟩ := h; exact .refl
  | o :: r, i, T, T', H, H', fs, fs', h => by
    simp only [opsD, stepD] at h
    split at h
    · generalize quietB bs ops.length i (fpOf T o) = q at h
      cases q with
      | false =>
        simp only [dropF, liftF] at h
        split at h
        · rename_i v H1 hop
          rw [forceV_eq] at h
          split at h
          · exact (op_vf hc hop).trans (opsD_vf hc h)
          · cases h
        · cases h
      | true =>
        simp only [dropF, liftF] at h
        split at h
        · rename_i v H1 hop
          rw [forceV_eq] at h
          split at h
          · exact ((op_vf hc hop).quiet.mono fun _ _ => trivial).trans (opsD_vf hc h)
          · cases h
        · cases h
    · split at h
      · exact opsD_vf hc h
      · cases h

theorem code_vf {call : CallFn} (hc : CallVF call) (k : Nat) : ∀ (c : Code) {T H ex T' H'}, (denC P c).run call k T H = some (ex, T', H') → VF H H' fun _ => True := by
  intro c
  induction c with
  | skip => intro T H ex T' H' h; simp only [denC, Option.some.injEq, Prod.mk.injEq] at h; obtain ⟨_, _, rfl⟩ := h; exact .refl
  | label l => intro T H ex T' H' h; simp only [denC, Option.some.injEq, Prod.mk.injEq] at h; obtain ⟨_, _, rfl⟩ := h; exact .refl
  | exit id => intro T H ex T' H' h; simp only [denC, Option.some.injEq, Prod.mk.injEq] at h; obtain ⟨_, _, rfl⟩ := h; exact .refl
  | ret => intro T H ex T' H' h; simp only [denC, Option.some.injEq, Prod.mk.injEq] at h; obtain ⟨_, _, rfl⟩ := h; exact .refl
  | seq x y ihx ihy =>
    intro T H ex T' H' h
    simp only [denC, seqV] at h
    split at h
    · rename_i T1 H1 h1
      exact (ihx h1).trans (ihy h)
    · exact ihx h
  | cond x t e iht ihe =>
    intro T H ex T' H' h
    simp only [denC, condV] at h
    split at h
    · split at h
      · exact iht h
      · exact ihe h
    · cases h
  | block id b ih =>
    intro T H ex T' H' h
    simp only [denC, blockV] at h
    split at h
    · rename_i i T1 H1 h1
      split at h <;> (simp only [Option.some.injEq, Prod.mk.injEq] at h; obtain ⟨_, _, rfl⟩ := h; exact ih h1)
    · exact ih h
  | loop b ih =>
    intro T H ex T' H' h
    simp only [denC] at h
    have : ∀ k' {T H}, loopV ((denC P b).run call k) k' T H = some (ex, T', H') → VF H H' fun _ => True := by
      intro k'
      induction k' with
      | zero => intro T H h; simp [loopV] at h
      | succ k' ihk =>
        intro T H h
        simp only [loopV] at h
        split at h
        · rename_i T1 H1 h1
          exact (ih h1).trans (ihk h)
        · exact ih h
    exact this k h
  | scope b ih => intro T H ex T' H' h; simp only [denC] at h; exact ih h
  | region id ops draw =>
    intro T H ex T' H' h
    cases draw with
    | true =>
      simp only [denC] at h
      obtain ⟨_, h2⟩ := asCode_some h
      unfold regionD at h2
      split at h2
      · split at h2
        · rename_i T1 H1 fs h1
          split at h2
          · simp only [Option.some.injEq, Prod.mk.injEq] at h2
            obtain ⟨rfl, rfl⟩ := h2
            exact opsD_vf hc h1
          · cases h2
        · cases h2
      · cases h2
    | false =>
      simp only [denC] at h
      obtain ⟨_, h2⟩ := asCode_some h
      exact ops_vf hc h2
  | goto l => intro T H ex T' H' h; simp [denC] at h
  | rangeFunc f ps x y => intro T H ex T' H' h; simp [denC] at h
  | refuse why => intro T H ex T' H' h; simp [denC] at h

theorem step_vf (k : Nat) {call : CallFn} (ih : CallVF call) : CallVF (stepC P call k) := by
  intro f args H v H' h
  simp only [stepC, denF] at h
  split at h
  · split at h
    · simp only at h
      split at h
      · unfold retV at h
        split at h
        · cases h
        · rename_i ex T H2 _ hrun
          have := code_vf ih k _ hrun
          split at h
          · simp only [Option.some.injEq, Prod.mk.injEq] at h; obtain ⟨_, rfl⟩ := h; exact this
          · simp only [Option.some.injEq, Prod.mk.injEq] at h; obtain ⟨_, rfl⟩ := h; exact this
          · cases h
        · cases h
      · cases h
    · simp at h
  · simp at h

theorem callV_vf (k : Nat) : ∀ n, CallVF (callV P k n)
  | 0 => fun h => by simp [callV] at h
  | n + 1 => step_vf k (callV_vf k n)
end Go.Vm

namespace Go.Vm
variable {P : Program}

/-! ### The trace of a run in the order of the text -/
def SOK (P : Program) (call : CallFn) (ops : List Oper) (bs : List Nat) (i : Nat) (o : Oper) (T : Frm) (H : Heap) (v : Value) (f : Fp) (w : Bool) (T1 : Frm) (H1 : Heap) : Prop :=
  T.put o.dst v = some T1 ∧
  ((w = true ∧ wantedV ops T o = true ∧ f = fpOf T o ∧ ∃ H2, (opV P o).run call T (dropF (quietB bs ops.length i f) H) = some (v, H2) ∧ H1 = liftF (quietB bs ops.length i f) H.floor H2) ∨
   (w = false ∧ wantedV ops T o = false ∧ v = undef ∧ f = .mem [] [] ∧ H1 = H))

theorem opsD_trace {call : CallFn} {ops : List Oper} {bs : List Nat} : ∀ {l : List Oper} {i0 : Nat} {T T' : Frm} {H H' : Heap} {fs0 fs' : List Fp}, (opsD P ops bs l i0).run call T H fs0 = some (T', H', fs') →
    ∃ (Ts : Nat → Frm) (Hs : Nat → Heap) (vs : Nat → Value) (fs : Nat → Fp) (ws : Nat → Bool), Ts 0 = T ∧ Hs 0 = H ∧ Ts l.length = T' ∧ Hs l.length = H' ∧ fs' = fs0 ++ (List.range l.length).map fs ∧
      ∀ k o, l[k]? = some o → SOK P call ops bs (i0 + k) o (Ts k) (Hs k) (vs k) (fs k) (ws k) (Ts (k + 1)) (Hs (k + 1))
  | [], i0, T, T', H, H', fs0, fs', h => by
    simp only [opsD, Option.some.injEq, Prod.mk.injEq] at h
    obtain ⟨rfl, rfl, rfl⟩ := h
    exact ⟨fun _ => T, fun _ => H, fun _ => undef, fun _ => .call, fun _ => false, rfl, rfl, rfl, rfl, by simp, fun k o h => by simp at h⟩
  | o :: r, i0, T, T', H, H', fs0, fs', h => by
    simp only [opsD, stepD] at h
    have glue : ∀ {T1 : Frm} {H1 : Heap} {v : Value} {f : Fp} {w : Bool}, SOK P call ops bs i0 o T H v f w T1 H1 → (opsD P ops bs r (i0 + 1)).run call T1 H1 (fs0 ++ [f]) = some (T', H', fs') →
        ∃ (Ts : Nat → Frm) (Hs : Nat → Heap) (vs : Nat → Value) (fs : Nat → Fp) (ws : Nat → Bool), Ts 0 = T ∧ Hs 0 = H ∧ Ts (o :: r).length = T' ∧ Hs (o :: r).length = H' ∧ fs' = fs0 ++ (List.range (o :: r).length).map fs ∧
          ∀ k o', (o :: r)[k]? = some o' → SOK P call ops bs (i0 + k) o' (Ts k) (Hs k) (vs k) (fs k) (ws k) (Ts (k + 1)) (Hs (k + 1)) := by
      intro T1 H1 v f w hs hrun
      obtain ⟨Ts, Hs, vs, fs, ws, h1, h2, h3, h4, h5, h6⟩ := opsD_trace hrun
      refine ⟨fun k => match k with | 0 => T | k + 1 => Ts k, fun k => match k with | 0 => H | k + 1 => Hs k, fun k => match k with | 0 => v | k + 1 => vs k, fun k => match k with | 0 => f | k + 1 => fs k,
        fun k => match k with | 0 => w | k + 1 => ws k, rfl, rfl, h3, h4, ?_, fun k o' hk => ?_⟩
      · rw [h5, List.length_cons, List.range_succ_eq_map, List.map_cons, List.map_map, List.append_assoc]
        rfl
      · cases k with
        | zero =>
          simp only [List.getElem?_cons_zero, Option.some.injEq] at hk
          subst hk
          simp only [Nat.add_zero, h1, h2]
          exact hs
        | succ k =>
          simp only [List.getElem?_cons_succ] at hk
          have := h6 k o' hk
          rw [show i0 + (k + 1) = i0 + 1 + k by omega]
          exact this
    split at h
    · rename_i hw
      split at h
      · rename_i v H2 hop
        rw [forceV_eq] at h
        split at h
        · rename_i T1 hp
          exact glue ⟨hp, .inl ⟨rfl, hw, rfl, H2, hop, rfl⟩⟩ h
        · cases h
      · cases h
    · rename_i hw
      split at h
      · rename_i T1 hp
        exact glue (w := false) ⟨hp, .inr ⟨rfl, by simpa using hw, rfl, rfl, rfl⟩⟩ h
      · cases h

/-! ### The order -/
def bfOne (bs : List Nat) (o : Oper) : Nat := (o.after.toList.filter (Region.binds .any)).foldl (fun s e => s ||| 2 ^ e.on ||| bs.getD e.on 0) 0

theorem snocInd {α : Type} {C : List α → Prop} (h0 : C []) (h1 : ∀ l x, C l → C (l ++ [x])) (l : List α) : C l := by
  have : ∀ r : List α, C r.reverse := by
    intro r
    induction r with
    | nil => exact h0
    | cons x r ih => rw [List.reverse_cons]; exact h1 _ _ ih
  have := this l.reverse
  rwa [List.reverse_reverse] at this

theorem befores_snoc (l : List Oper) (o : Oper) : befores (l ++ [o]) = befores l ++ [bfOne (befores l) o] := by
  simp only [befores, List.foldl_append, List.foldl_cons, List.foldl_nil]
  rfl
theorem befores_length : ∀ l : List Oper, (befores l).length = l.length := by
  intro l
  refine snocInd (C := fun l => (befores l).length = l.length) rfl (fun l o ih => ?_) l
  rw [befores_snoc]; simp [ih]
theorem befores_stable (l r : List Oper) (j : Nat) (h : j < l.length) : (befores (l ++ r)).getD j 0 = (befores l).getD j 0 := by
  refine snocInd (C := fun r => (befores (l ++ r)).getD j 0 = (befores l).getD j 0) (by simp) (fun r o ih => ?_) r
  rw [← List.append_assoc, befores_snoc, ← ih]
  simp only [List.getD_eq_getElem?_getD]
  rw [List.getElem?_append_left (by rw [befores_length]; simp; omega)]

theorem fold_bits (bs : List Nat) : ∀ (es : List Edge) (s i : Nat), (es.foldl (fun s e => s ||| 2 ^ e.on ||| bs.getD e.on 0) s).testBit i = true ↔
    s.testBit i = true ∨ ∃ e ∈ es, e.on = i ∨ (bs.getD e.on 0).testBit i = true
  | [], s, i => by simp
  | e :: es, s, i => by
    rw [List.foldl_cons, fold_bits bs es]
    simp only [Nat.testBit_or, Nat.testBit_two_pow, Bool.or_eq_true, decide_eq_true_eq, List.mem_cons]
    constructor
    · rintro (((h | h) | h) | ⟨e', h1, h2⟩)
      · exact .inl h
      · exact .inr ⟨e, .inl rfl, .inl h⟩
      · exact .inr ⟨e, .inl rfl, .inr h⟩
      · exact .inr ⟨e', .inr h1, h2⟩
    · rintro (h | ⟨e', rfl | h1, h2⟩)
      · exact .inl (.inl (.inl h))
      · rcases h2 with h2 | h2
        · exact .inl (.inl (.inr h2))
        · exact .inl (.inr h2)
      · exact .inr ⟨e', h1, h2⟩

/-- 'i' must come before 'j'. -/
def Bf (ops : List Oper) (i j : Nat) : Prop := ((befores ops).getD j 0).testBit i = true

theorem Bf_iff {ops : List Oper} (hback : ∀ (j : Nat) o, ops[j]? = some o → ∀ e ∈ o.after.toList, Region.binds .any e = true → e.on < j) {i j : Nat} {o : Oper} (ho : ops[j]? = some o) :
    Bf ops i j ↔ ∃ e ∈ o.after.toList, Region.binds .any e = true ∧ (e.on = i ∨ Bf ops i e.on) := by
  have hj : j < ops.length := (List.getElem?_eq_some_iff.1 ho).1
  have hsplit : ops = ops.take j ++ o :: ops.drop (j + 1) := by
    have := List.take_append_drop j ops
    rw [List.drop_eq_getElem_cons hj] at this
    have e : ops[j] = o := (List.getElem?_eq_some_iff.1 ho).2
    rw [e] at this
    exact this.symm
  have hl : (ops.take j).length = j := by simp; omega
  have h1 : (befores ops).getD j 0 = bfOne (befores (ops.take j)) o := by
    have e1 : befores ops = befores ((ops.take j ++ [o]) ++ ops.drop (j + 1)) := by
      rw [List.append_assoc]
      exact congrArg befores hsplit
    rw [e1, befores_stable _ _ j (by simp; omega), befores_snoc]
    simp only [List.getD_eq_getElem?_getD]
    rw [List.getElem?_append_right (by rw [befores_length]; omega), befores_length, hl]
    simp
  have h2 : ∀ k, k < j → (befores (ops.take j)).getD k 0 = (befores ops).getD k 0 := by
    intro k hk
    have := befores_stable (ops.take j) (ops.drop j) k (by omega)
    rw [List.take_append_drop] at this
    exact this.symm
  unfold Bf
  rw [h1, bfOne, fold_bits]
  simp only [Nat.zero_testBit, Bool.false_eq_true, false_or, List.mem_filter]
  constructor
  · rintro ⟨e, ⟨he, hb⟩, h⟩
    exact ⟨e, he, hb, by rw [h2 _ (hback j o ho e he hb)] at h; exact h⟩
  · rintro ⟨e, he, hb, h⟩
    exact ⟨e, ⟨he, hb⟩, by rw [h2 _ (hback j o ho e he hb)]; exact h⟩

theorem Bf_lt {ops : List Oper} (hback : ∀ (j : Nat) o, ops[j]? = some o → ∀ e ∈ o.after.toList, Region.binds .any e = true → e.on < j) : ∀ {j i : Nat}, j < ops.length → Bf ops i j → i < j := by
  intro j
  induction j using Nat.strongRecOn with
  | _ j ih =>
    intro i hj h
    have ho : ops[j]? = some ops[j] := by simp [hj]
    obtain ⟨e, he, hb, h⟩ := (Bf_iff hback ho).1 h
    have hlt := hback j _ ho e he hb
    rcases h with h | h
    · omega
    · have := ih e.on hlt (by omega) h
      omega

/-- A set of operations that is closed under what must come before. -/
def Closed (ops : List Oper) (S : Nat → Bool) : Prop := ∀ (j : Nat) o, ops[j]? = some o → S j = true → ∀ e ∈ o.after.toList, Region.binds .any e = true → S e.on = true

theorem Closed.bf {ops : List Oper} (hback : ∀ (j : Nat) o, ops[j]? = some o → ∀ e ∈ o.after.toList, Region.binds .any e = true → e.on < j) {S : Nat → Bool} (hS : Closed ops S) :
    ∀ {j i : Nat}, j < ops.length → S j = true → Bf ops i j → S i = true := by
  intro j
  induction j using Nat.strongRecOn with
  | _ j ih =>
    intro i hj hs h
    have ho : ops[j]? = some ops[j] := by simp [hj]
    obtain ⟨e, he, hb, h⟩ := (Bf_iff hback ho).1 h
    have hlt := hback j _ ho e he hb
    have hse := hS j _ ho hs e he hb
    rcases h with h | h
    · exact h ▸ hse
    · exact ih e.on hlt (by omega) hse h

/-! ### Who wrote last -/
open Classical in
noncomputable def LW {α : Type} (init : α) (W : Nat → Prop) (val : Nat → α) (S : Nat → Bool) : Nat → α
  | 0 => init
  | n + 1 => if S n = true ∧ W n then val n else LW init W val S n

theorem LW_congr {α : Type} {init : α} {W : Nat → Prop} {val : Nat → α} {S S' : Nat → Bool} : ∀ {n : Nat}, (∀ i, i < n → W i → S i = S' i) → LW init W val S n = LW init W val S' n
  | 0, _ => rfl
  | n + 1, h => by
    simp only [LW]
    rw [LW_congr (n := n) fun i hi hw => h i (by omega) hw]
    by_cases hw : W n
    · rw [h n (by omega) hw]
    · simp [hw]
theorem LW_cut {α : Type} {init : α} {W : Nat → Prop} {val : Nat → α} {S : Nat → Bool} {j : Nat} : ∀ {n : Nat}, (∀ i, i < n → W i → (S i = true ↔ i < j)) → j ≤ n → LW init W val S n = LW init W val (fun _ => true) j
  | 0, _, hj => by have : j = 0 := by omega
                   subst this; rfl
  | n + 1, h, hj => by
    by_cases e : j = n + 1
    · subst e
      exact LW_congr fun i hi hw => by rw [(h i hi hw).2 hi]
    · simp only [LW]
      rw [← LW_cut (n := n) (fun i hi hw => h i (by omega) hw) (by omega)]
      rw [if_neg]
      rintro ⟨hs, hw⟩
      have := (h n (by omega) hw).1 hs
      omega
theorem LW_skip {α : Type} {init : α} {W : Nat → Prop} {val : Nat → α} {S : Nat → Bool} {j : Nat} (hw : ¬ W j) : ∀ {n : Nat}, LW init W val (fun i => S i || decide (i = j)) n = LW init W val S n := by
  intro n
  refine LW_congr fun i _ hi => ?_
  have : i ≠ j := fun e => hw (e ▸ hi)
  simp [this]
theorem LW_add {α : Type} {init : α} {W : Nat → Prop} {val : Nat → α} {S : Nat → Bool} {j n : Nat} (hj : j < n) (hw : W j) (h : ∀ i, i < n → i ≠ j → W i → (S i = true ↔ i < j)) :
    LW init W val (fun i => S i || decide (i = j)) n = val j := by
  rw [LW_cut (j := j + 1) (fun i hi hwi => ?_) (by omega)]
  · simp [LW, hw]
  · by_cases e : i = j
    · subst e; simp
    · have := h i hi e hwi
      simp only [Bool.or_eq_true, decide_eq_true_eq, e, or_false]
      rw [this]
      omega
end Go.Vm

namespace Go.Vm
variable {P : Program}

theorem fp_mem_simple {o : Oper} {T : Frm} {r wl : List Nat} (h : fpOf T o = .mem r wl) (call : CallFn) (H : Heap) : (opV P o).run call T H = (simpleV P o.type o.op).run T H := by
  obtain ⟨dst, op, type, pos, after, guard⟩ := o
  unfold opV
  split
  · rename_i f args at_ ho
    simp only at ho
    subst ho
    simp [fpOf] at h
  · rfl
theorem fp_call {o : Oper} {T : Frm} (h : fpOf T o = .call) : ∃ f args at_, o.op = .call ⟨.value f, args, at_⟩ := by
  obtain ⟨dst, op, type, pos, after, guard⟩ := o
  unfold fpOf at h
  simp only at h
  split at h
  all_goals first | (cases h; done) | exact ⟨_, _, _, rfl⟩

/-- What block numbers operation i has written or made. -/
def Kw (ops : List Oper) (fs : Nat → Fp) (i b : Nat) : Prop := match fs i with | .mem _ w => b ∈ w | .call => freeCall (befores ops) ops.length i = true
def Kp (ops : List Oper) (fs : Nat → Fp) (Hs : Nat → Heap) (i b : Nat) : Prop := ((Hs i).next ≤ b ∧ b < (Hs (i + 1)).next) ∨ Kw ops fs i b
def dsOf (ops : List Oper) (i : Nat) : Option Tmp := (ops[i]?).bind (·.dst)

theorem put_get {T T1 : Frm} {dst : Option Tmp} {v : Value} (h : T.put dst v = some T1) (t : Nat) : T1.get t = (if dst = some t then v else T.get t) ∧ T1.n = T.n := by
  cases dst with
  | none => simp only [Frm.put, Option.some.injEq] at h; subst h; simp
  | some d =>
    simp only [Frm.put] at h
    split at h
    · simp only [Option.some.injEq] at h
      subst h
      simp only [Frm.get, PT.get_set, Option.some.injEq]
      by_cases e : t = d
      · subst e; simp
      · simp [e, Ne.symm e]
    · cases h

theorem Fp.clash_mem {r w r' w' : List Nat} {b : Nat} (hb : b ∈ w) (ht : b ∈ r' ∨ b ∈ w') : (Fp.mem r w).clash (.mem r' w') = true ∧ (Fp.mem r' w').clash (.mem r w) = true := by
  have m : ∀ {x y : List Nat}, b ∈ x → b ∈ y → meets x y = true := fun {x y} hx hy =>
    List.any_eq_true.2 ⟨b, hx, List.any_eq_true.2 ⟨b, hy, by simp⟩⟩
  rcases ht with ht | ht
  · exact ⟨by simp [Fp.clash, m hb ht], by simp [Fp.clash, m ht hb]⟩
  · exact ⟨by simp [Fp.clash, m hb ht], by simp [Fp.clash, m ht hb]⟩

theorem free_cmp {ops : List Oper} {i k : Nat} (h : freeCall (befores ops) ops.length i = true) (hk : k < ops.length) (hne : k ≠ i) : Bf ops i k ∨ Bf ops k i := by
  have := List.all_eq_true.1 h k (List.mem_range.2 hk)
  simp only [beq_dec, Bool.or_eq_true, decide_eq_true_eq, cmpB] at this
  rcases this with h | h | h
  · exact absurd h.symm hne
  · exact .inr h
  · exact .inl h

structure Tra (P : Program) (call : CallFn) (ops : List Oper) (Ts : Nat → Frm) (Hs : Nat → Heap) (vs : Nat → Value) (fs : Nat → Fp) (ws : Nat → Bool) : Prop where
  cvf : CallVF call
  sok : ∀ (k : Nat) o, ops[k]? = some o → SOK P call ops (befores ops) k o (Ts k) (Hs k) (vs k) (fs k) (ws k) (Ts (k + 1)) (Hs (k + 1))
  back : ∀ (j : Nat) o, ops[j]? = some o → ∀ e ∈ o.after.toList, Region.binds .any e = true → e.on < j
  apart : ∀ (i j : Nat) oi oj, i < j → ops[i]? = some oi → ops[j]? = some oj → Bf ops i j ∨ Bf ops j i ∨ apartB ops oi oj = true
  clash : ∀ (i j : Nat), i < j → j < ops.length → Bf ops i j ∨ Bf ops j i ∨ (fs i).clash (fs j) = false

section
variable {call : CallFn} {ops : List Oper} {Ts : Nat → Frm} {Hs : Nat → Heap} {vs : Nat → Value} {fs : Nat → Fp} {ws : Nat → Bool} (R : Tra P call ops Ts Hs vs fs ws)
include R

theorem Tra.vf {i : Nat} (hi : i < ops.length) : VF (Hs i) (Hs (i + 1)) (Kw ops fs i) := by
  have ho : ops[i]? = some ops[i] := by simp [hi]
  obtain ⟨hp, h⟩ := R.sok i _ ho
  rcases h with ⟨_, _, hf, H2, hrun, hH⟩ | ⟨_, _, _, hf, hH⟩
  · cases hq : fs i with
    | mem r wl =>
      rw [hq] at hf hrun hH
      rw [fp_mem_simple hf.symm] at hrun
      simp only [quietB, dropF, liftF] at hrun hH
      rw [hH]
      refine (simple_vf (P := P) hrun).mono fun b hb => ?_
      simp only [Wrs, ← hf] at hb
      simp only [Kw, hq]
      exact hb
    | call =>
      rw [hq] at hf hrun hH
      simp only [quietB] at hrun hH
      cases hfr : freeCall (befores ops) ops.length i with
      | true =>
        simp only [hfr, Bool.not_true, dropF, liftF] at hrun hH
        rw [hH]
        exact (op_vf R.cvf hrun).mono fun b _ => by simp only [Kw, hq, hfr]
      | false =>
        simp only [hfr, Bool.not_false, dropF, liftF] at hrun hH
        rw [hH]
        exact (op_vf R.cvf hrun).quiet.mono fun b h => h.elim
  · rw [hH]; exact .refl

theorem Tra.next_mono {i : Nat} : ∀ {j : Nat}, i ≤ j → j ≤ ops.length → (Hs i).next ≤ (Hs j).next
  | 0, h, _ => by have : i = 0 := by omega
                  subst this; exact Nat.le_refl _
  | j + 1, h, hj => by
    by_cases e : i = j + 1
    · subst e; exact Nat.le_refl _
    · exact Nat.le_trans (Tra.next_mono (j := j) (by omega) (by omega)) (R.vf (by omega)).next

theorem Tra.ts {t : Nat} : ∀ {j : Nat}, j ≤ ops.length → (Ts j).get t = LW ((Ts 0).get t) (fun i => dsOf ops i = some t) vs (fun _ => true) j ∧ (Ts j).n = (Ts 0).n
  | 0, _ => ⟨rfl, rfl⟩
  | j + 1, hj => by
    have ho : ops[j]? = some ops[j] := by simp [show j < ops.length by omega]
    obtain ⟨hp, _⟩ := R.sok j _ ho
    have ih := Tra.ts (t := t) (j := j) (by omega)
    have hg := put_get hp t
    have hd : dsOf ops j = ops[j].dst := by simp [dsOf, ho]
    refine ⟨?_, hg.2.trans ih.2⟩
    rw [hg.1, ih.1]
    simp only [LW, true_and, hd]

theorem Tra.hs {b : Nat} : ∀ {j : Nat}, j ≤ ops.length → b < (Hs j).next → (Hs j).get b = LW ((Hs 0).get b) (fun i => Kp ops fs Hs i b) (fun i => (Hs (i + 1)).get b) (fun _ => true) j
  | 0, _, _ => rfl
  | j + 1, hj, hb => by
    simp only [LW]
    by_cases hk : Kp ops fs Hs j b
    · rw [if_pos ⟨rfl, hk⟩]
    · rw [if_neg (fun h => hk h.2)]
      have hlt : b < (Hs j).next := by
        rcases Nat.lt_or_ge b (Hs j).next with h | h
        · exact h
        · exact absurd (.inl ⟨h, hb⟩) hk
      rw [(R.vf (by omega)).same b hlt fun h => hk (.inr h)]
      exact Tra.hs (j := j) (by omega) hlt
end

/-! ### The state between two operations -/
def WRo : Option Blk → Prop
  | some (.cells _ _ ro) => ro = false
  | some (.map _) => True
  | none => False
theorem WRo_iff {H : Heap} {b : Nat} : WRo (H.get b) ↔ WR H b := by
  unfold WR WRo
  cases H.get b with
  | none => exact Iff.rfl
  | some k => cases k <;> exact Iff.rfl

def rs (σ : Sg) (m : Nat) : Sg := fun b => if b < m then σ b else none
theorem rs_some {σ : Sg} {m b : Nat} {x : Nat × Nat × Nat} (h : rs σ m b = some x) : b < m ∧ σ b = some x := by
  unfold rs at h
  split at h
  · exact ⟨by assumption, h⟩
  · cases h
theorem rs_mono {σ σ' : Sg} {m m' : Nat} (hs : ∀ b x, b < m → σ b = some x → σ' b = some x) (hm : m ≤ m') : ∀ b x, rs σ m b = some x → rs σ' m' b = some x := by
  intro b x h
  obtain ⟨h1, h2⟩ := rs_some h
  simp only [rs, show b < m' by omega, if_true]
  exact hs b x h1 h2

noncomputable def TSv (ops : List Oper) (Ts : Nat → Frm) (vs : Nat → Value) (S : Nat → Bool) (t : Nat) : Value :=
  LW ((Ts 0).get t) (fun i => dsOf ops i = some t) vs S ops.length
noncomputable def HSv (ops : List Oper) (fs : Nat → Fp) (Hs : Nat → Heap) (S : Nat → Bool) (b : Nat) : Option Blk :=
  LW ((Hs 0).get b) (fun i => Kp ops fs Hs i b) (fun i => (Hs (i + 1)).get b) S ops.length

structure Inv (ops : List Oper) (Ts : Nat → Frm) (Hs : Nat → Heap) (vs : Nat → Value) (fs : Nat → Fp) (σ0 : Sg) (w0 : World) (S : Nat → Bool) (σ : Sg) (a : Act) (w : World) : Prop where
  defers : a.defers = []
  size : a.tmps.size = (Ts 0).n
  tmp : ∀ t m, m ≤ ops.length → (∀ i, i < ops.length → S i = true → dsOf ops i = some t → i < m) → VR (rs σ (Hs m).next) (TSv ops Ts vs S t) (a.tmps.getD t undef)
  blk : ∀ b x k m, m ≤ ops.length → (∀ i, i < ops.length → S i = true → Kp ops fs Hs i b → i < m) → σ b = some x → HSv ops fs Hs S b = some k → BlkOK (rs σ (Hs m).next) w x k
  dom : ∀ b x, σ b = some x → x.1 < w.heap.size ∧ (b < (Hs 0).next ∨ ∃ i, i < ops.length ∧ S i = true ∧ (Hs i).next ≤ b ∧ b < (Hs (i + 1)).next)
  wrd : ∀ i, i < ops.length → S i = true → ∀ r wl b, fs i = .mem r wl → b ∈ wl → ∃ x, σ b = some x
  inj : ∀ b b' x x', b ≠ b' → σ b = some x → σ b' = some x' → x.1 = x'.1 → WRo (HSv ops fs Hs S b) → HSv ops fs Hs S b' = none
  sub : ∀ b, b < (Hs 0).next → σ b = σ0 b
  os : w.os = w0.os
  tape : w.tape = w0.tape
  output : w.output = w0.output
  wsize : w0.heap.size ≤ w.heap.size
  frame : ∀ r, r < w0.heap.size → ¬ Own σ0 (Hs 0) r → w.heap[r]? = w0.heap[r]?
  own : ∀ b x, (Hs 0).floor ≤ b → WRo (HSv ops fs Hs S b) → σ b = some x → Own σ0 (Hs 0) x.1 ∨ w0.heap.size ≤ x.1
  newr : ∀ b x, (Hs 0).next ≤ b → σ b = some x → Own σ0 (Hs 0) x.1 ∨ w0.heap.size ≤ x.1

section
variable {call : CallFn} {ops : List Oper} {Ts : Nat → Frm} {Hs : Nat → Heap} {vs : Nat → Value} {fs : Nat → Fp} {ws : Nat → Bool} (R : Tra P call ops Ts Hs vs fs ws)
include R

/-- What 'the next operation' means. -/
structure Nx (ops : List Oper) (S : Nat → Bool) (j : Nat) : Prop where
  lt : j < ops.length
  no : S j = false
  closed : Closed ops S
  preds : ∀ o, ops[j]? = some o → ∀ e ∈ o.after.toList, Region.binds .any e = true → S e.on = true

theorem Tra.cmpL {S : Nat → Bool} {i j : Nat} (N : Nx ops S j) (hi : i < ops.length) (h : Bf ops i j ∨ Bf ops j i) : (S i = true ↔ i < j) := by
  have ho : ops[j]? = some (ops[j]'N.lt) := by simp [N.lt]
  rcases h with h | h
  · have hlt := Bf_lt R.back N.lt h
    refine ⟨fun _ => hlt, fun _ => ?_⟩
    obtain ⟨e, he, hb, h⟩ := (Bf_iff R.back ho).1 h
    have hse := N.preds _ ho e he hb
    have hel := R.back j _ ho e he hb
    rcases h with h | h
    · exact h ▸ hse
    · exact N.closed.bf R.back (by have := N.lt; omega) hse h
  · have hlt := Bf_lt R.back hi h
    refine ⟨fun hs => ?_, fun h => by omega⟩
    have := N.closed.bf R.back hi hs h
    rw [N.no] at this; cases this

theorem Tra.cutT {S : Nat → Bool} {j t : Nat} {oj : Oper} (N : Nx ops S j) (hoj : ops[j]? = some oj) (ht : t ∈ looksAt ops oj ∨ oj.dst = some t) {i : Nat} (hi : i < ops.length) (hne : i ≠ j) (hd : dsOf ops i = some t) :
    (S i = true ↔ i < j) := by
  have hoi : ops[i]? = some ops[i] := by simp [hi]
  have hdi : ops[i].dst = some t := by simpa [dsOf, hoi] using hd
  rcases Nat.lt_or_gt_of_ne hne with h | h
  · rcases R.apart i j _ _ h hoi hoj with h1 | h1 | h1
    · exact R.cmpL N hi (.inl h1)
    · exact R.cmpL N hi (.inr h1)
    · simp only [apartB, hdi, Bool.and_eq_true, Bool.not_eq_true'] at h1
      obtain ⟨⟨h1, h2⟩, _⟩ := h1
      rcases ht with ht | ht
      · have := List.any_eq_false.1 h1 t ht
        simp at this
      · simp [ht] at h2
  · rcases R.apart j i _ _ h hoj hoi with h1 | h1 | h1
    · exact R.cmpL N hi (.inr h1)
    · exact R.cmpL N hi (.inl h1)
    · simp only [apartB, hdi, Bool.and_eq_true, Bool.not_eq_true'] at h1
      obtain ⟨h1, h2⟩ := h1
      rcases ht with ht | ht
      · have := List.any_eq_false.1 h2 t ht
        simp at this
      · simp [ht, beq_dec] at h1

/-- A block that operation j touches has been written by just those that come before j in the text. -/
theorem Tra.cutK {σ0 σ : Sg} {w0 w : World} {a : Act} {S : Nat → Bool} {j b : Nat} {x : Nat × Nat × Nat} (N : Nx ops S j) (I : Inv ops Ts Hs vs fs σ0 w0 S σ a w) (hx : σ b = some x) (hb : b < (Hs j).next)
    (ht : fs j = .call ∨ ∃ r wl, fs j = .mem r wl ∧ (b ∈ r ∨ b ∈ wl)) {i : Nat} (hi : i < ops.length) (hk : Kp ops fs Hs i b) : (S i = true ↔ i < j) := by
  by_cases e : i = j
  · subst e; simp [N.no]
  by_cases hc : Bf ops i j ∨ Bf ops j i
  · exact R.cmpL N hi hc
  have hno : (i < j → (fs i).clash (fs j) = false) ∧ (j < i → (fs j).clash (fs i) = false) := by
    refine ⟨fun h => ?_, fun h => ?_⟩
    · rcases R.clash i j h N.lt with h1 | h1 | h1
      · exact absurd (.inl h1) hc
      · exact absurd (.inr h1) hc
      · exact h1
    · rcases R.clash j i h hi with h1 | h1 | h1
      · exact absurd (.inr h1) hc
      · exact absurd (.inl h1) hc
      · exact h1
  rcases hk with ⟨h1, h2⟩ | hk
  · have hij : i < j := by
      rcases Nat.lt_or_gt_of_ne e with h | h
      · exact h
      · have := R.next_mono (i := j) (j := i) (by omega) (by omega); omega
    refine ⟨fun _ => hij, fun _ => ?_⟩
    rcases (I.dom b x hx).2 with h | ⟨i', hi', hs', h3, h4⟩
    · have := R.next_mono (i := 0) (j := i) (by omega) (by omega); omega
    · have : i' = i := by
        rcases Nat.lt_trichotomy i' i with h | h | h
        · have := R.next_mono (i := i' + 1) (j := i) (by omega) (by omega); omega
        · exact h
        · have := R.next_mono (i := i + 1) (j := i') (by omega) (by omega); omega
      exact this ▸ hs'
  · exfalso
    unfold Kw at hk
    split at hk
    · rename_i r wl hf
      rcases Nat.lt_or_gt_of_ne e with h | h
      · have hcl := hno.1 h
        rw [hf] at hcl
        rcases ht with ht | ⟨r', wl', ht, hm⟩
        · rw [ht] at hcl
          cases wl with
          | nil => cases hk
          | cons _ _ => simp [Fp.clash] at hcl
        · rw [ht, (Fp.clash_mem hk hm).1] at hcl; cases hcl
      · have hcl := hno.2 h
        rw [hf] at hcl
        rcases ht with ht | ⟨r', wl', ht, hm⟩
        · rw [ht] at hcl
          cases wl with
          | nil => cases hk
          | cons _ _ => simp [Fp.clash] at hcl
        · rw [ht, (Fp.clash_mem hk hm).2] at hcl; cases hcl
    · exact hc ((free_cmp hk N.lt (fun h => e h.symm)))
end
end Go.Vm

