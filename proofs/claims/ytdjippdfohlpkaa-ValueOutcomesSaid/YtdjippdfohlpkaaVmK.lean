/- A verified interpreter: its operations are the machine's (ninth part: maps; all together). -/
import Derived.Test.YtdjippdfohlpkaaVmJ
namespace Go.Vm
variable {P : Program}

theorem pureRun_bind {α β : Type} (s : Sem α) (f : α → Sem β) : pureRun P (s.bind f) = (pureRun P s).bind fun a => pureRun P (f a) := by
  induction s with
  | pure x => rfl
  | program k ih => exact ih P
  | mark m k ih => exact ih
  | _ => rfl
theorem pureRun_bind' {α β : Type} (s : Sem α) (f : α → Sem β) : pureRun P (s >>= f) = (pureRun P s).bind fun a => pureRun P (f a) := pureRun_bind s f

/-- Entries, each beside its own: the same keys. -/
structure ER (σ : Sg) (l l' : List MapEntry) : Prop where
  len : l.length = l'.length
  at_ : ∀ (i : Nat) e e', l[i]? = some e → l'[i]? = some e' → e'.key = e.key ∧ VR σ e.val e'.val

theorem ER.head {σ : Sg} {v v' : MapEntry} {l l' : List MapEntry} (h : ER σ (v :: l) (v' :: l')) : v'.key = v.key ∧ VR σ v.val v'.val := h.at_ 0 v v' rfl rfl
theorem ER.tail {σ : Sg} {v v' : MapEntry} {l l' : List MapEntry} (h : ER σ (v :: l) (v' :: l')) : ER σ l l' :=
  ⟨by simpa using h.len, fun i u u' a b => h.at_ (i + 1) u u' (by simpa using a) (by simpa using b)⟩

def FoundR (σ : Sg) : Option (Nat × Value) → Option (Nat × Value) → Prop
  | none, none => True
  | some (i, v), some (j, v') => i = j ∧ VR σ v v'
  | _, _ => False

theorem findNow_rel {σ : Sg} {d : TypeDesc} {k : Value} : ∀ {l l' : List MapEntry} {n : Nat}, ER σ l l' →
    (Instr.findNow d k l n = none ∧ Instr.findNow d k l' n = none) ∨ ∃ r r', Instr.findNow d k l n = some r ∧ Instr.findNow d k l' n = some r' ∧ FoundR σ r r'
  | [], l', n, h => by
    have : l' = [] := by have := h.len; simp at this; exact List.eq_nil_of_length_eq_zero this.symm
    subst this
    exact .inr ⟨none, none, rfl, rfl, trivial⟩
  | e :: r, [], n, h => by have := h.len; simp at this
  | e :: r, e' :: r', n, h => by
    obtain ⟨hk, hv⟩ := h.head
    simp only [Instr.findNow, hk]
    cases hs : Instr.sameNow d k e.key with
    | none => exact .inl ⟨rfl, rfl⟩
    | some b =>
      cases b with
      | true => exact .inr ⟨_, _, rfl, rfl, rfl, hv⟩
      | false => exact findNow_rel h.tail

theorem findAsking_rel {σ : Sg} {kt : TypeId} {k : Value} : ∀ {l l' : List MapEntry} {n : Nat} {r : Option (Nat × Value)}, ER σ l l' →
    pureRun P (Instr.findAsking kt k l n) = some r → ∃ r', pureRun P (Instr.findAsking kt k l' n) = some r' ∧ FoundR σ r r'
  | [], l', n, r, h, hr => by
    have : l' = [] := by have := h.len; simp at this; exact List.eq_nil_of_length_eq_zero this.symm
    subst this
    simp only [Instr.findAsking] at hr ⊢
    have : some (none : Option (Nat × Value)) = some r := hr
    simp only [Option.some.injEq] at this
    subst this
    exact ⟨none, rfl, trivial⟩
  | e :: es, [], n, r, h, hr => by have := h.len; simp at this
  | e :: es, e' :: es', n, r, h, hr => by
    obtain ⟨hk, hv⟩ := h.head
    simp only [Instr.findAsking, hk, pureRun_bind'] at hr ⊢
    cases hq : pureRun P (Op.equal kt k e.key) with
    | none => simp [hq] at hr
    | some b =>
      simp only [hq, Option.bind_some] at hr ⊢
      cases b with
      | true =>
        have : some (some (n, e.val)) = some r := hr
        simp only [Option.some.injEq] at this
        subst this
        exact ⟨some (n, e'.val), rfl, rfl, hv⟩
      | false => exact findAsking_rel h.tail hr

theorem pureRun_underlying {t : TypeId} {d : TypeDesc} (h : pureRun P (underlying t) = some d) : P.underlying t = some d := by
  unfold underlying at h
  rw [pureRun_bind'] at h
  have hp : pureRun P program = some P := rfl
  rw [hp] at h
  simp only [Option.bind_some] at h
  cases hu : P.underlying t with
  | none => simp [hu, pureRun, stuck] at h
  | some d' => simp only [hu] at h; exact h

theorem findKey_rel {σ : Sg} {kt : TypeId} {k : Value} {l l' : List MapEntry} {r : Option (Nat × Value)} (h : ER σ l l') (hr : pureRun P (Instr.findKey kt k l) = some r) :
    ∃ r', pureRun P (Instr.findKey kt k l') = some r' ∧ FoundR σ r r' := by
  unfold Instr.findKey at hr ⊢
  rw [pureRun_bind'] at hr ⊢
  cases hu : pureRun P (underlying kt) with
  | none => simp [hu] at hr
  | some d =>
    simp only [hu, Option.bind_some] at hr ⊢
    rcases findNow_rel (d := d) (k := k) (n := 0) h with ⟨h1, h2⟩ | ⟨q, q', h1, h2, hq⟩
    · simp only [h1] at hr
      simp only [h2]
      exact findAsking_rel h hr
    · simp only [h1] at hr
      simp only [h2]
      have : some q = some r := hr
      simp only [Option.some.injEq] at this
      subst this
      exact ⟨q', rfl, hq⟩

theorem mapOf_sound {σ : Sg} {H : Heap} {w : World} {x x' : Value} {es : List MapEntry} (h : mapOf H x = some es) (hx : VR σ x x') (hf : (es.all fun e => flat e.key) = true)
    (hok : ∀ b y j, b ∈ blkOf x → σ b = some y → H.get b = some j → BlkOK σ w y j) :
    ∃ es', ER σ es es' ∧ ((x' = .map none ∧ es' = []) ∨ ∃ r clock, x' = .map (some r) ∧ w.heap[r]? = some (.map es'.toArray clock)) := by
  unfold mapOf at h
  split at h
  · simp only [Option.some.injEq] at h
    subst h
    exact ⟨[], ⟨rfl, fun i e e' a _ => by simp at a⟩, .inl ⟨hx.plain_eq rfl, rfl⟩⟩
  · rename_i b
    split at h
    · rename_i es0 hg
      simp only [Option.some.injEq] at h
      subst h
      obtain ⟨r, s, hσ, rfl⟩ := hx.map_inv
      obtain ⟨_, es', clock, hh, hl, hv⟩ := hok b _ _ (by simp [blkOf]) hσ hg
      refine ⟨es'.toList, ⟨by simpa using hl, fun i e e' a c => ?_⟩, .inr ⟨r, clock, rfl, by simpa using hh⟩⟩
      have := hv i e e' a (by simpa using c)
      exact ⟨this.1 (by have := List.all_eq_true.1 hf e (List.mem_of_getElem? a); simpa using this), this.2⟩
    · cases h
  · cases h

section
variable {dst : Option Tmp} {type : TypeId} {pos : String} {after : Array Edge} {guard : Option (Nat × Bool)} {T : Frm} {H H' : Heap} {v : Value}

theorem s_lookup {t : TypeId} {xo ko : Operand} {ok : Bool} (h : oLookup P t xo ko ok T H = some (v, H')) : OpS P ⟨dst, .lookup t xo ko ok, type, pos, after, guard⟩ T H v H' := by
  unfold oLookup at h
  split at h
  · rename_i x k hx hk
    obtain ⟨hv, rfl⟩ := keep_some h
    refine .still (fun b h => by simp [Wrs, fpOf] at h) fun σ a w hfr hlt hok => ?_
    have hrx := evO_sound hfr hx
    have hrk := evO_sound hfr hk
    unfold lookupV at hv
    split at hv
    · rename_i kt et es hu hm
      split at hv
      · rename_i hf
        simp only [Bool.and_eq_true] at hf
        obtain ⟨hfk, hfe⟩ := hf
        obtain ⟨es', hE, hmap⟩ := mapOf_sound hm hrx hfe (fun b y j hb => hok b y j (by simp [Touch, fpOf, blkO, hx, hb]))
        have ek := hrk.flat_eq hfk
        have hemp : es'.isEmpty = es.isEmpty := by
          have := hE.len
          cases es <;> cases es' <;> simp at this ⊢
        have run : ∀ (c : Unit) (r : Option (Nat × Value)), pureRun P (Instr.checkKey es.isEmpty 10000 kt k) = some c → pureRun P (Instr.findKey kt k es) = some r →
            ∃ r' : Option (Nat × Value), FoundR σ r r' ∧ ∀ v' : Value × Bool, (match r' with | some (_, v) => (.ok (v, true) w : Result (Value × Bool)) | none => ((zeroValue et).run P w).andThen fun z w => .ok (z, false) w) = .ok v' w →
              (execOp a.eval ⟨dst, .lookup t xo ko ok, type, pos, after, guard⟩).run P w = .ok (.value (if ok then .tuple #[v'.1, .bool v'.2] else v'.1)) w := by
          intro c r hc hr
          obtain ⟨r', hr', hF⟩ := findKey_rel hE hr
          refine ⟨r', hF, fun v' hv' => ?_⟩
          have h1 := pureRun_sound _ _ hc w
          have h2 := pureRun_sound _ _ hr' w
          rcases hmap with ⟨e, rfl⟩ | ⟨m, clock, e, hh⟩
          · have h3 : es = [] := by have := hE.len; exact List.eq_nil_of_length_eq_zero (by simpa using this)
            subst h3
            cases r' with
            | none =>
              simp only at hv'
              cases hz : (zeroValue et).run P w with
              | halt _ _ => simp [hz] at hv'
              | ok z w2 =>
                simp only [hz, Result.andThen_ok, Result.ok.injEq] at hv'
                obtain ⟨rfl, rfl⟩ := hv'
                simp at h1
                simp [execOp, e, ek, Instr.lookup, run_underlying hu, h1, h2, hz]
            | some q =>
              simp only [Result.ok.injEq] at hv'
              obtain ⟨rfl, -⟩ := hv'
              simp at h1
              simp [execOp, e, ek, Instr.lookup, run_underlying hu, h1, h2]
          · have hemp2 : es'.toArray.isEmpty = es.isEmpty := by rw [← hemp]; cases es' <;> rfl
            cases r' with
            | none =>
              simp only at hv'
              cases hz : (zeroValue et).run P w with
              | halt _ _ => simp [hz] at hv'
              | ok z w2 =>
                simp only [hz, Result.andThen_ok, Result.ok.injEq] at hv'
                obtain ⟨rfl, rfl⟩ := hv'
                simp [execOp, e, ek, Instr.lookup, run_underlying hu, getObj, Sem.run, hh, hemp, h1, h2, hz]
            | some q =>
              simp only [Result.ok.injEq] at hv'
              obtain ⟨rfl, -⟩ := hv'
              simp [execOp, e, ek, Instr.lookup, run_underlying hu, getObj, Sem.run, hh, hemp, h1, h2]
        split at hv
        · rename_i i v0 hc hr
          simp only [Option.some.injEq] at hv
          subst hv
          obtain ⟨r', hF, hrun⟩ := run _ _ hc hr
          cases r' with
          | none => exact hF.elim
          | some q =>
            obtain ⟨j, v0'⟩ := q
            obtain ⟨-, hv0⟩ := hF
            refine ⟨_, hrun (v0', true) rfl, ?_⟩
            cases ok with
            | false => exact hv0
            | true => exact VR.tupleL (.cons hv0 (.cons (.plain rfl) .nil))
        · rename_i hc hr
          obtain ⟨z, hz, rfl⟩ := Option.map_eq_some_iff.1 hv
          obtain ⟨hzr, hzf⟩ := zeroT_run hz w
          obtain ⟨r', hF, hrun⟩ := run _ _ hc hr
          cases r' with
          | some q => exact hF.elim
          | none =>
            refine ⟨_, hrun (z, false) (by simp [hzr]), ?_⟩
            cases ok with
            | false => exact VR.of_flat hzf
            | true => exact VR.tupleL (.cons (VR.of_flat hzf) (.cons (.plain rfl) .nil))
        · cases hv
      · cases hv
    · cases hv
  · cases h

/-- A map's entries are changed. -/
theorem LRes.putMap {σ : Sg} {H : Heap} {w w' : World} {Wr : Nat → Prop} {b r s clock' : Nat} {es : List MapEntry} {es2' : Array MapEntry} (hlt : Lt σ H w) (hσ : σ b = some (r, 0, s))
    (hw : w' = { w with heap := w.heap.setIfInBounds r (.map es2' clock') }) (hbW : Wr b) (hW1 : ∀ b', Wr b' → b' = b) (hf : H.floor ≤ b) (hwr : WR H b)
    (hlen : es.length = es2'.size) (hat : ∀ (i : Nat) (e e' : MapEntry), es[i]? = some e → es2'[i]? = some e' → (flat e.key = true → e'.key = e.key) ∧ VR σ e.val e'.val) :
    LRes σ H w σ (H.put b (some (.map es))) w' Wr := by
  subst hw
  have hrl := (hlt b _ hσ).2
  exact {
    next := Nat.le_refl _
    next1 := Nat.le_succ _
    floor := rfl
    sub := fun _ _ => rfl
    lt := fun b' x' hx' => by have := hlt b' x' hx'; exact ⟨this.1, by simpa using this.2⟩
    same := fun b' _ hn => by
      have e : b' ≠ b := fun e => hn (e ▸ hbW)
      rw [Heap.get_put, if_neg e]
    wr := fun b' _ hb' => by
      have e := hW1 b' hb'
      subst e
      exact .inr ⟨hf, hwr, .inr (by simp [WR, Heap.get_put])⟩
    ok := fun b' x' k hb' hx' hk => by
      rcases hb' with hb' | hb'
      · have e := hW1 b' hb'
        subst e
        rw [hσ] at hx'
        simp only [Option.some.injEq] at hx'; subst hx'
        rw [Heap.get_put, if_pos rfl] at hk
        simp only [Option.some.injEq] at hk; subst hk
        exact ⟨rfl, es2', clock', by simp only at hrl; simp [hrl], hlen, hat⟩
      · have := (hlt b' x' hx').1; omega
    newr := fun b' x' hb' hx' => by have := (hlt b' x' hx').1; omega
    os := rfl
    tape := rfl
    output := rfl
    size := by simp
    frame := fun r' hr' => by
      by_cases e : r' = r
      · subst e; exact .inr ⟨b, _, hbW, hf, hwr, hσ, rfl⟩
      · left
        simp only
        rw [Array.getElem?_setIfInBounds, if_neg (fun h => e h.symm)] }

theorem s_update_gen {o : Oper} {t : TypeId} {mo ko vo : Operand} (ho : o.op = .mapUpdate t mo ko vo ∨ o.op = .insert t mo ko vo) (h : oUpdate P t mo ko vo T H = some (v, H')) : OpS P o T H v H' := by
  unfold oUpdate at h
  split at h
  · rename_i m k x hm hk hx
    cases hu2 : mapUpdateV P H t m k x with
    | none => simp [hu2] at h
    | some H2 =>
      simp only [hu2, Option.map_some, Option.some.injEq, Prod.mk.injEq] at h
      obtain ⟨rfl, rfl⟩ := h
      unfold mapUpdateV at hu2
      split at hu2
      · rename_i kt et b hu
        split at hu2
        · rename_i es hg
          split at hu2
          · rename_i hc
            simp only [Bool.and_eq_true, decide_eq_true_eq] at hc
            obtain ⟨⟨hfl, hfk⟩, hfe⟩ := hc
            have hT : ∀ b', Touch T o b' ↔ b' = b := fun b' => by
              unfold Touch fpOf
              rcases ho with h | h <;> rw [h] <;> simp [blkO, hm, blkOf]
            have hW : ∀ b', Wrs T o b' ↔ b' = b := fun b' => by
              unfold Wrs fpOf
              rcases ho with h | h <;> rw [h] <;> simp [blkO, hm, blkOf]
            intro σ a w hfr hlt hok
            have hrm := evO_sound hfr hm
            have ek := (evO_sound hfr hk).flat_eq hfk
            have hrx := evO_sound hfr hx
            obtain ⟨r, s, hσ, ex⟩ := hrm.map_inv
            obtain ⟨_, es', clock, hh, hl, hv⟩ := hok b _ _ ((hT b).2 rfl) hσ hg
            simp only at hh
            have hE : ER σ es es'.toList := ⟨by simpa using hl, fun i e e' p q => by
              have := hv i e e' p (by simpa using q)
              exact ⟨this.1 (by have := List.all_eq_true.1 hfe e (List.mem_of_getElem? p); simpa using this), this.2⟩⟩
            have hexec : (execOp a.eval o).run P w = ((Instr.mapUpdate t (a.eval mo) (a.eval ko) (a.eval vo)).run P w).andThen fun _ w => .ok .skip w := by
              rcases ho with h | h <;> simp [execOp, h]
            have hwr : WR H b := by simp [WR, hg]
            split at hu2
            · rename_i i v0 hc hr
              split at hu2
              · rename_i e hei
                split at hu2
                · rename_i hsame
                  simp only [Option.some.injEq] at hu2
                  subst hu2
                  obtain ⟨r', hr', hF⟩ := findKey_rel hE hr
                  cases r' with
                  | none => exact hF.elim
                  | some q =>
                    obtain ⟨j, v0'⟩ := q
                    obtain ⟨rfl, -⟩ := hF
                    have h1 := pureRun_sound _ _ hc w
                    have h2 := pureRun_sound _ _ hr' w
                    have hi : i < es'.size := by rw [← hl]; exact (List.getElem?_eq_some_iff.1 hei).1
                    have hke := (hE.at_ i e es'[i] hei (by simp [hi])).1
                    refine ⟨.skip, undef, { w with heap := w.heap.setIfInBounds r (.map (es'.modify i fun e => { e with key := k, val := a.eval vo }) clock) }, σ, ?_, rfl, .undef, ?_⟩
                    · rw [hexec, ex, ek]
                      simp [Instr.mapUpdate, run_underlying hu, getObj, setObj, Sem.run, hh, h1, h2, Instr.keyThatStays, hi, hke, hsame]
                    · refine .putMap hlt hσ rfl ((hW b).2 rfl) (fun b' hb' => (hW b').1 hb') hfl hwr (by simp [hl]) (fun n e1 e1' p q => ?_)
                      rw [List.getElem?_set] at p
                      rw [Array.getElem?_modify] at q
                      by_cases hn : i = n
                      · subst hn
                        have hil : i < es.length := by omega
                        simp only [if_true, hil] at p
                        simp only [if_true, hi, Array.getElem?_eq_getElem, Option.map_some, Option.some.injEq] at q
                        simp only [Option.some.injEq] at p
                        subst p
                        subst q
                        exact ⟨fun _ => rfl, hrx⟩
                      · rw [if_neg hn] at p q
                        exact ⟨fun _ => (hE.at_ n e1 e1' p (by simpa using q)).1, (hE.at_ n e1 e1' p (by simpa using q)).2⟩
                · cases hu2
              · cases hu2
            · rename_i hc hr
              simp only [Option.some.injEq] at hu2
              subst hu2
              obtain ⟨r', hr', hF⟩ := findKey_rel hE hr
              cases r' with
              | some q => exact hF.elim
              | none =>
                have h1 := pureRun_sound _ _ hc w
                have h2 := pureRun_sound _ _ hr' w
                refine ⟨.skip, undef, { w with heap := w.heap.setIfInBounds r (.map (es'.push { key := k, val := a.eval vo, born := clock }) (clock + 1)) }, σ, ?_, rfl, .undef, ?_⟩
                · rw [hexec, ex, ek]
                  simp [Instr.mapUpdate, run_underlying hu, getObj, setObj, Sem.run, hh, h1, h2]
                · refine .putMap hlt hσ rfl ((hW b).2 rfl) (fun b' hb' => (hW b').1 hb') hfl hwr (by simp [hl]) (fun n e1 e1' p q => ?_)
                  rw [Array.getElem?_push] at q
                  by_cases hn : n = es'.size
                  · rw [if_pos hn] at q
                    rw [List.getElem?_append_right (by omega), show n - es.length = 0 by omega] at p
                    simp only [List.getElem?_cons_zero, Option.some.injEq] at p q
                    subst p
                    subst q
                    exact ⟨fun _ => rfl, hrx⟩
                  · rw [if_neg hn] at q
                    have hlt' := (Array.getElem?_eq_some_iff.1 q).1
                    rw [List.getElem?_append_left (by omega)] at p
                    exact ⟨fun _ => (hE.at_ n e1 e1' p (by simpa using q)).1, (hE.at_ n e1 e1' p (by simpa using q)).2⟩
            · cases hu2
          · cases hu2
        · cases hu2
      · cases hu2
  · cases h

theorem evL_two {l : List Operand} {x y : Value} (h : evL T l = some [x, y]) : ∃ xo yo, l = [xo, yo] ∧ evO T xo = some x ∧ evO T yo = some y := by
  cases l with
  | nil => simp [evL] at h
  | cons a r =>
    cases r with
    | nil => simp only [evL] at h; split at h <;> simp_all
    | cons b q =>
      cases q with
      | nil =>
        simp only [evL] at h
        cases ha : evO T a with
        | none => simp [ha] at h
        | some u =>
          cases hb : evO T b with
          | none => simp [ha, hb] at h
          | some u2 => simp [ha, hb] at h; exact ⟨a, b, rfl, by rw [ha, h.1], by rw [hb, h.2]⟩
      | cons c q2 =>
        simp only [evL] at h
        split at h
        · rename_i h1 h2
          split at h2
          · rename_i h3 h4
            split at h4
            · simp only [Option.some.injEq] at h h2 h4
              subst h4; subst h2; simp at h
            · cases h4
          · cases h2
        · cases h
theorem evL_one {l : List Operand} {x : Value} (h : evL T l = some [x]) : ∃ xo, l = [xo] ∧ evO T xo = some x := by
  cases l with
  | nil => simp [evL] at h
  | cons a r =>
    cases r with
    | nil =>
      simp only [evL] at h
      cases ha : evO T a with
      | none => simp [ha] at h
      | some u => simp [ha] at h; exact ⟨a, rfl, by rw [ha, h]⟩
    | cons b q =>
      simp only [evL] at h
      split at h
      · rename_i h1 h2
        split at h2
        · simp only [Option.some.injEq] at h h2
          subst h2; simp at h
        · cases h2
      · cases h

theorem s_builtin {b : Builtin} {args : Array Operand} {argTypes : Array TypeId} (h : oBuiltin P type b args.toList argTypes T H = some (v, H')) :
    OpS P ⟨dst, .call ⟨.builtin b, args, argTypes⟩, type, pos, after, guard⟩ T H v H' := by
  unfold oBuiltin at h
  split at h
  · rename_i vs hvs
    unfold builtinV at h
    split at h
    · obtain ⟨xo, yo, hl, hx, hy⟩ := evL_two hvs
      have : args = #[xo, yo] := by apply Array.ext'; simpa using hl
      subst this
      exact s_append hx hy h
    · obtain ⟨xo, yo, hl, hx, hy⟩ := evL_two hvs
      have : args = #[xo, yo] := by apply Array.ext'; simpa using hl
      subst this
      exact s_copy hx hy h
    · obtain ⟨xo, hl, hx⟩ := evL_one hvs
      have : args = #[xo] := by apply Array.ext'; simpa using hl
      subst this
      exact s_len hx h
    · split at h
      · exact s_max hvs (by assumption) h
      · cases h
    · split at h
      · exact s_min hvs (by assumption) h
      · cases h
    · cases h
  · cases h
end

/-- ALL OPERATIONS THAT ENTER NO FUNCTION. -/
theorem simple_sound {o : Oper} {T : Frm} {H H' : Heap} {v : Value} (h : (simpleV P o.type o.op).run T H = some (v, H')) : OpS P o T H v H' := by
  obtain ⟨dst, op, type, pos, after, guard⟩ := o
  simp only at h
  unfold simpleV at h
  split at h
  · exact s_move h
  · exact s_assign h
  · exact s_pick h
  · exact s_alloc h
  · exact s_box h
  · exact s_build h
  · exact s_buildSlice h
  · exact s_load h
  · exact s_store h
  · exact s_nil h
  · exact s_bin h
  · exact s_un h
  · exact s_conv h
  · exact s_func h
  · simp only [Option.some.injEq, Prod.mk.injEq] at h
    obtain ⟨rfl, rfl⟩ := h
    exact s_makeMap
  · exact s_makeSlice h
  · exact s_slice h
  · exact s_fieldAddr h
  · exact s_field h
  · exact s_indexAddr h
  · exact s_index h
  · exact s_lookup h
  · exact s_update_gen (.inl rfl) h
  · exact s_update_gen (.inr rfl) h
  · exact s_extract h
  · exact s_builtin h
  · cases h

end Go.Vm
