/- A verified interpreter: its operations are the machine's (fourth part: slices, what is built). A verified interpreter: its operations are the machine's (fifth part: what is built, what grows). A verified interpreter: its operations are the machine's (sixth part: append, copy, conversions, maps, builtins). A verified interpreter: its operations are the machine's (seventh part: append, copy, conversions, maps, builtins). A verified interpreter: its operations are the machine's (eighth part: copy, conversions, maps, builtins). -/
import Derived.Test.YtdjippdfohlpkaaW0
namespace Go.Vm
variable {P : Program}

theorem boundV_sound {v : Option Value} {d y n : Nat} (h : boundV v d y = some n) : v = none ∧ n = d ∨ ∃ k i, v = some (.int k i) ∧ 0 ≤ i ∧ i ≤ y ∧ n = i.toNat := by
  unfold boundV at h
  split at h
  · simp only [Option.some.injEq] at h; exact .inl ⟨rfl, h.symm⟩
  · split at h
    · rename_i k i hi
      simp only [Option.some.injEq] at h
      exact .inr ⟨k, i, rfl, hi.1, hi.2, h.symm⟩
    · cases h
  · cases h

theorem sliceBound_run (k : IntKind) (i : Int) (y : Nat) (code : BoundsCode) (h0 : 0 ≤ i) (h1 : i ≤ y) (w : World) : (Instr.sliceBound (.int k i) y code).run P w = .ok i.toNat w := by
  simp [Instr.sliceBound, asIntOf, h0, h1]

/-- The bounds of a slice expression, its capacity perhaps greater. -/
theorem sliceBounds_run {isSlice : Bool} {len cap s : Nat} {lo hi : Option Value} {l h : Nat} (hh : boundV hi len cap = some h) (hl : boundV lo 0 h = some l) (w : World) :
    (Instr.sliceBounds isSlice len (cap + s) lo hi none).run P w = .ok (l, h, cap + s) w := by
  rcases boundV_sound hh with ⟨rfl, rfl⟩ | ⟨kh, ih, rfl, hh0, hh1, rfl⟩ <;> rcases boundV_sound hl with ⟨rfl, rfl⟩ | ⟨kl, il, rfl, hl0, hl1, rfl⟩
  · simp [Instr.sliceBounds]
  · simp [Instr.sliceBounds, sliceBound_run kl il _ _ hl0 hl1]
  · simp [Instr.sliceBounds, sliceBound_run kh ih (cap + s) _ hh0 (by omega)]
  · simp [Instr.sliceBounds, sliceBound_run kh ih (cap + s) _ hh0 (by omega), sliceBound_run kl il _ _ hl0 hl1]

theorem evM_sound {σ : Sg} {T : Frm} {a : Act} (h : FR σ T a.tmps) {x : Option Operand} {v : Option Value} (hx : evM T x = some v) :
    (v = none ∧ x = none) ∨ ∃ (y : Operand) (u : Value), x = some y ∧ v = some u ∧ VR σ u (a.eval y) := by
  unfold evM at hx
  split at hx
  · simp only [Option.some.injEq] at hx; exact .inl ⟨hx.symm, rfl⟩
  · split at hx
    · rename_i y _ u hu
      simp only [Option.some.injEq] at hx
      exact .inr ⟨y, u, rfl, hx.symm, evO_sound h hu⟩
    · cases hx

theorem boundV_map {σ : Sg} {T : Frm} {a : Act} (h : FR σ T a.tmps) {x : Option Operand} {v : Option Value} (hx : evM T x = some v) {d y n : Nat} (hb : boundV v d y = some n) :
    x.map a.eval = v := by
  rcases evM_sound h hx with ⟨rfl, rfl⟩ | ⟨o, u, rfl, rfl, hr⟩
  · rfl
  · rcases boundV_sound hb with ⟨h1, _⟩ | ⟨k, i, h1, _⟩
    · cases h1
    · simp only [Option.some.injEq] at h1
      subst h1
      simp [hr.int_inv]

section
variable {dst : Option Tmp} {type : TypeId} {pos : String} {after : Array Edge} {guard : Option (Nat × Bool)} {T : Frm} {H H' : Heap} {v : Value}

theorem exAt_slack {σ : Sg} {w : World} {b r d s : Nat} (h : exAt H b = true) (hok : ∀ k, H.get b = some k → BlkOK σ w (r, d, s) k) : s = 0 := by
  unfold exAt at h
  split at h
  · rename_i cs ro hg
    exact (hok _ hg).1 rfl
  · cases h

theorem s_slice {t : TypeId} {x : Operand} {lo hi mx : Option Operand} (h : oSlice P t x lo hi mx T H = some (v, H')) : OpS P ⟨dst, .slice t x lo hi mx, type, pos, after, guard⟩ T H v H' := by
  unfold oSlice at h
  split at h
  · rename_i u ul uh um hx hl hh hm
    obtain ⟨hv, rfl⟩ := keep_some h
    refine .still (fun b h => by simp [Wrs, fpOf] at h) fun σ a w hfr hlt hok => ?_
    have hrx := evO_sound hfr hx
    have hmx : um = none → mx = none := by
      intro e; subst e
      rcases evM_sound hfr hm with ⟨_, h⟩ | ⟨_, _, _, h, _⟩
      · exact h
      · cases h
    unfold sliceV at hv
    split at hv
    · rename_i s hu
      have := hmx rfl; subst this
      split at hv
      · rename_i h' hb
        cases hbl : boundV ul 0 h' with
        | none => simp [hbl] at hv
        | some l =>
          simp only [hbl, Option.map_some, Option.some.injEq] at hv
          subst hv
          have hsb := sliceBounds_run (P := P) (isSlice := false) (s := 0) hb hbl w
          have ex := hrx.plain_eq rfl
          refine ⟨_, ?_, .plain rfl⟩
          simp only [Nat.add_zero] at hsb
          simp [execOp, ex, Instr.sliceAt, run_underlying hu, Instr.slice, boundV_map hfr hl hbl, boundV_map hfr hh hb, hsb]
      · cases hv
    · rename_i e b off len cap hu
      have := hmx rfl; subst this
      split at hv
      · rename_i s h' hs hb
        split at hv
        · rename_i l hbl
          obtain ⟨b', off', r, d, sl, heq, hσ, ex⟩ := hrx.slice_inv
          simp only [Addr.mk.injEq] at heq
          obtain ⟨rfl, rfl, -⟩ := heq
          have hsb := sliceBounds_run (P := P) (isSlice := true) (s := sl) hb hbl w
          have hrun : (Instr.slice t (.slice (some ⟨r, d + off, none⟩) len (cap + sl)) (lo.map a.eval) (hi.map a.eval) none).run P w =
              .ok (.slice (if cap + sl = l then some ⟨r, d + off, none⟩ else some ⟨r, d + off + l * s, none⟩) (h' - l) (cap + sl - l)) w := by
            simp only [boundV_map hfr hl hbl, boundV_map hfr hh hb]
            simp [Instr.slice, run_underlying hu, hsb, sizeT_run hs w, add_none]
          split at hv
          · rename_i h0
            subst h0
            simp only [Option.some.injEq] at hv
            subst hv
            refine ⟨.slice (some ⟨r, d + off, none⟩) h' (cap + sl), ?_, .slice hσ⟩
            simp [execOp, ex, Instr.sliceAt, run_underlying hu, hrun]
          · rename_i h0
            split at hv
            · rename_i hc
              simp only [Option.some.injEq] at hv
              subst hv
              simp only [Bool.or_eq_true, Bool.and_eq_true, decide_eq_true_eq] at hc
              have hsl : cap = l → sl = 0 := fun e => by
                rcases hc with ⟨h1, _⟩ | h1
                · exact exAt_slack h1 (fun k hk => hok b _ k (by simp [Touch, fpOf, blkO, hx, blkOf]) hσ hk)
                · omega
              have hle : l ≤ cap := by omega
              by_cases e : cap = l
              · have := hsl e
                subst this
                subst e
                refine ⟨.slice (some ⟨r, d + off, none⟩) (h' - cap) (cap - cap + 0), ?_, by rw [if_pos rfl]; exact .slice hσ⟩
                simp only [Nat.add_zero, if_true] at hrun
                simp [execOp, ex, Instr.sliceAt, run_underlying hu, hrun]
              · have e2 : ¬ cap + sl = l := by omega
                refine ⟨.slice (some ⟨r, d + (off + l * s), none⟩) (h' - l) (cap - l + sl), ?_, by rw [if_neg e]; exact .slice hσ⟩
                simp [execOp, ex, Instr.sliceAt, run_underlying hu, hrun, e2]
                omega
            · cases hv
        · cases hv
      · cases hv
    · rename_i e hu
      have := hmx rfl; subst this
      split at hv
      · rename_i sz h' l hs hb hbl
        simp only [Option.some.injEq] at hv
        subst hv
        have ex := hrx.plain_eq rfl
        have h0 : h' = 0 := by rcases boundV_sound hb with ⟨_, h1⟩ | ⟨_, _, _, h1, h2, h3⟩ <;> omega
        subst h0
        have l0 : l = 0 := by rcases boundV_sound hbl with ⟨_, h1⟩ | ⟨_, _, _, h1, h2, h3⟩ <;> omega
        subst l0
        have hsb := sliceBounds_run (P := P) (isSlice := true) (s := 0) hb hbl w
        simp only [Nat.add_zero] at hsb
        refine ⟨.slice none 0 0, ?_, .plain rfl⟩
        simp only [execOp, ex, Instr.sliceAt, boundV_map hfr hl hbl, boundV_map hfr hh hb]
        simp [run_underlying hu, Instr.slice, hsb, sizeT_run hs w]
      · cases hv
    · rename_i n e b off hu
      have := hmx rfl; subst this
      split at hv
      · rename_i s h' hs hb
        split at hv
        · rename_i l hbl
          obtain ⟨b', off', r, d, sl, heq, hσ, ex⟩ := hrx.ptr_inv
          simp only [Addr.mk.injEq] at heq
          obtain ⟨rfl, rfl, -⟩ := heq
          split at hv
          · rename_i hex
            simp only [Option.some.injEq] at hv
            subst hv
            have h0 := exAt_slack hex (fun k hk => hok b _ k (by simp [Touch, fpOf, blkO, hx, blkOf]) hσ hk)
            subst h0
            have hsb := sliceBounds_run (P := P) (isSlice := false) (s := 0) hb hbl w
            simp only [Nat.add_zero] at hsb
            refine ⟨.slice (some (if n = l then ⟨r, d + off, none⟩ else ⟨r, d + off + l * s, none⟩)) (h' - l) (n - l), ?_, ?_⟩
            · simp only [execOp, ex, Instr.sliceAt, boundV_map hfr hl hbl, boundV_map hfr hh hb]
              simp [run_underlying hu, hsb, sizeT_run hs w, add_none, Instr.sureAddr]
            · by_cases e : n = l
              · rw [if_pos e, if_pos e]; exact .slice (s := 0) hσ
              · rw [if_neg e, if_neg e, Nat.add_assoc]; exact .slice (s := 0) hσ
          · cases hv
        · cases hv
      · cases hv
    · cases hv
  · cases h
end
end Go.Vm

namespace Go.Vm
variable {P : Program}

theorem made_flatten (z : Array Value) : ∀ n : Nat, (madeCells z (n * z.size)).toList = (List.replicate n z.toList).flatten
  | 0 => by simp [madeCells]
  | n + 1 => by
    have ih := made_flatten z n
    simp only [madeCells, Array.toList_map, Array.toList_range] at ih ⊢
    rw [List.replicate_succ, List.flatten_cons, ← ih, Nat.succ_mul, Nat.add_comm, List.range_add, List.map_append]
    congr 1
    · apply List.ext_getElem?
      intro i
      by_cases hi : i < z.size
      · simp [hi, Nat.mod_eq_of_lt hi]
      · simp [hi]
    · rw [List.map_map]
      apply List.map_congr_left
      intro i _
      simp

theorem run_makeMade (w : World) (t e : TypeId) (i : TypeInfo) (z : Value) (ht : P.underlying t = some (.slice e)) (hi : P.info? e = some i) (hz : i.zero = some z)
    (kl kc : IntKind) (l c : Int) (h0 : 0 ≤ l) (hlc : l ≤ c) (hb : c * i.bytes ≤ roomV) (hr : c ≤ roomV) :
    (Instr.makeSlice t (.int kl l) (.int kc c)).run P w = .ok (.slice (some ⟨w.heap.size, 0, none⟩) l.toNat c.toNat) (w.alloc (.cells (madeCells z.cells (c.toNat * i.size)) e)) := by
  have : (roomV : Int) = 68719476736 := by decide
  exact run_make w t e i z ht hi hz kl kc l c h0 hlc (by rw [Int.mul_comm]; omega) (by omega)

theorem zeroT_info {e : TypeId} {i : TypeInfo} {z : Value} (hi : P.info? e = some i) (hz : zeroT P e = some z) : i.zero = some z ∧ flat z = true := by
  unfold zeroT at hz
  simp only [hi] at hz
  cases h : i.zero with
  | none => simp [h] at hz
  | some v =>
    simp only [h] at hz
    split at hz
    · simp only [Option.some.injEq] at hz; subst hz; exact ⟨rfl, by assumption⟩
    · cases hz

theorem all_replicate {l : List Value} (h : l.all plain = true) : ∀ n, ((List.replicate n l).flatten).all plain = true
  | 0 => by simp
  | n + 1 => by simp only [List.replicate_succ, List.flatten_cons, List.all_append, h, all_replicate h n, Bool.and_self]

section
variable {dst : Option Tmp} {type : TypeId} {pos : String} {after : Array Edge} {guard : Option (Nat × Bool)} {T : Frm} {H H' : Heap} {v : Value}

theorem s_makeSlice {t : TypeId} {x y : Operand} (h : oMakeSlice P t x y T H = some (v, H')) : OpS P ⟨dst, .makeSlice t x y, type, pos, after, guard⟩ T H v H' := by
  unfold oMakeSlice at h
  split at h
  · rename_i u u2 hx hy
    unfold makeSliceV at h
    split at h
    · rename_i e kl l kc c hu
      split at h
      · rename_i i z hi hz
        split at h
        · rename_i hc
          obtain ⟨h0, hlc, hr, hb, hsz⟩ := hc
          rw [allocK_eq] at h
          simp only [Option.some.injEq, Prod.mk.injEq] at h
          obtain ⟨rfl, rfl⟩ := h
          obtain ⟨hz', hf⟩ := zeroT_info hi hz
          intro σ a w hfr hlt hok
          have ex := (evO_sound hfr hx).int_inv
          have ey := (evO_sound hfr hy).int_inv
          have hrun := run_makeMade (P := P) w t e i z hu hi hz' kl kc l c h0 hlc hb hr
          refine ⟨_, .slice (some ⟨w.heap.size, 0 + 0, none⟩) l.toNat (c.toNat + 0), w.alloc (.cells (madeCells z.cells (c.toNat * i.size)) e), upS σ H.next (w.heap.size, 0, 0), by simp [execOp, ex, ey, hrun]; rfl, rfl, .slice (upS_same _ _ _), ?_⟩
          refine .newBlk hlt rfl rfl rfl rfl (fun b x j hb => by simp [Wrs, fpOf] at hb) ?_
          refine .newCells (c := madeCells z.cells (c.toNat * i.size)) (t := e) (fr := (0, 0)) (heap_push_new _ _) (fun _ => rfl) ⟨_, [], by rw [← hsz, made_flatten, List.append_nil], LR.of_plain (all_replicate (all_plain_cells hf) _), by simp⟩ (.inl rfl)
        · cases h
      · cases h
    · cases h
  · cases h

/-! ### Building -/
structure PR (σ : Sg) (l l' : List (Nat × Value)) : Prop where
  fst : l.map (·.1) = l'.map (·.1)
  snd : LR σ (l.map (·.2)) (l'.map (·.2))

theorem evParts_sound {σ : Sg} {T : Frm} {a : Act} (h : FR σ T a.tmps) : ∀ {l : List (Nat × Operand)} {ps : List (Nat × Value)}, evParts T l = some ps →
    PR σ ps (l.map fun (i, x) => (i, a.eval x))
  | [], ps, hx => by simp only [evParts, Option.some.injEq] at hx; subst hx; exact ⟨rfl, .nil⟩
  | (i, x) :: r, ps, hx => by
    simp only [evParts] at hx
    split at hx
    · rename_i v us hv hus
      simp only [Option.some.injEq] at hx
      subst hx
      have ih := evParts_sound h hus
      exact ⟨by simp [ih.fst], .cons (evO_sound h hv) ih.snd⟩
    · cases hx

theorem foldl_splice (off : Nat) : ∀ (vs : List Value) (k : Nat) (cs : Array Value), off + k + vs.length ≤ cs.size →
    ((vs.zipIdx k).foldl (fun (cs : Array Value) (x : Value × Nat) => cs.setIfInBounds (off + x.2) x.1) cs).toList = splice cs.toList (off + k) vs
  | [], k, cs, _ => by simp [splice]
  | v :: r, k, cs, h => by
    simp only [List.length_cons] at h
    simp only [List.zipIdx_cons, List.foldl_cons]
    rw [foldl_splice off r (k + 1) _ (by simp; omega)]
    apply List.ext_getElem?
    intro i
    rw [splice_get (by simp; omega), splice_get (by simp; omega)]
    simp only [Array.toList_setIfInBounds, List.getElem?_set, Array.length_toList, List.length_cons]
    by_cases h1 : i = off + k
    · subst h1
      have e1 : ¬ (off + (k + 1) ≤ off + k ∧ off + k < off + (k + 1) + r.length) := by omega
      have e2 : off + k ≤ off + k ∧ off + k < off + k + (r.length + 1) := by omega
      have e3 : off + k < cs.size := by omega
      rw [if_neg e1, if_pos e2]
      simp [e3]
    · by_cases h2 : off + (k + 1) ≤ i ∧ i < off + (k + 1) + r.length
      · have e2 : off + k ≤ i ∧ i < off + k + (r.length + 1) := by omega
        rw [if_pos h2, if_pos e2, show i - (off + k) = (i - (off + (k + 1))) + 1 by omega]
        simp
      · have e2 : ¬ (off + k ≤ i ∧ i < off + k + (r.length + 1)) := by omega
        rw [if_neg h2, if_neg e2, if_neg (fun e => h1 e.symm)]

theorem fill_sound {σ : Sg} {place place' : Nat → Option (Nat × Nat)} (hp : ∀ i x, place i = some x → place' i = some x) :
    ∀ {l l' : List (Nat × Value)} {cs cs1 : List Value} {cs' : Array Value}, fillS place cs l = some cs1 → PR σ l l' → LR σ cs cs'.toList →
      ∃ cs1', Instr.fill place' cs' l' = some cs1' ∧ LR σ cs1 cs1'.toList
  | [], l', cs, cs1, cs', h, hpr, hl => by
    simp only [fillS, Option.some.injEq] at h
    subst h
    have : l' = [] := by have := hpr.fst; simp at this; exact this
    subst this
    exact ⟨cs', rfl, hl⟩
  | (i, v) :: r, [], cs, cs1, cs', h, hpr, hl => by have := hpr.fst; simp at this
  | (i, v) :: r, (i', v') :: r', cs, cs1, cs', h, hpr, hl => by
    simp only [fillS] at h
    have hi : i = i' := by have := hpr.fst; simp at this; exact this.1
    subst hi
    have hv : VR σ v v' := hpr.snd.head
    have hr : PR σ r r' := ⟨by have := hpr.fst; simp at this; exact this, hpr.snd.tail⟩
    cases hpl : place i with
    | none => simp [hpl] at h
    | some x =>
      obtain ⟨off, size⟩ := x
      simp only [hpl] at h
      split at h
      · rename_i hc
        obtain ⟨h1, h2⟩ := hc
        have hvc := hv.cells
        have hvl := hvc.len
        have hll := hl.len
        simp only [Array.length_toList] at hvl hll
        have hfold : (v'.cells.zipIdx.foldl (fun (cs : Array Value) (x : Value × Nat) => cs.setIfInBounds (off + x.2) x.1) cs').toList = splice cs'.toList off v'.cells.toList := by
          rw [← Array.foldl_toList, Array.toList_zipIdx]
          exact foldl_splice off v'.cells.toList 0 cs' (by simp; omega)
        have hsp : LR σ (splice cs off v.cells.toList) (v'.cells.zipIdx.foldl (fun (cs : Array Value) (x : Value × Nat) => cs.setIfInBounds (off + x.2) x.1) cs').toList := by
          rw [hfold]
          unfold splice
          refine (((hl.take off).append hvc).append ?_)
          rw [hvc.len]
          exact hl.drop _
        obtain ⟨cs1', hf, hl'⟩ := fill_sound hp h hr hsp
        refine ⟨cs1', ?_, hl'⟩
        simp only [Instr.fill, hp i _ hpl]
        have e1 : v'.cells.size = size := by omega
        have e2 : ¬ (off + v'.cells.size > cs'.size) := by omega
        simp only [e1, ne_eq, not_true_eq_false, decide_false, Bool.false_or]
        have e3 : ¬ (off + size > cs'.size) := by omega
        simpa [e3] using hf
      · cases h

theorem s_build {t : TypeId} {parts : Array (Nat × Operand)} (h : oBuild P t parts.toList T H = some (v, H')) : OpS P ⟨dst, .build t parts, type, pos, after, guard⟩ T H v H' := by
  unfold oBuild at h
  split at h
  · rename_i ps hps
    obtain ⟨hv, rfl⟩ := keep_some h
    refine .still (fun b h => by simp [Wrs, fpOf] at h) fun σ a w hfr _ _ => ?_
    have hpr := evParts_sound hfr hps
    suffices hs : ∃ cells, P.built t (parts.toList.map fun (i, x) => (i, a.eval x)) = some cells ∧ VR σ v (.agg cells) by
      obtain ⟨cells, hb, hv'⟩ := hs
      refine ⟨.agg cells, ?_, hv'⟩
      have := run_build (P := P) w t (parts.map fun (i, x) => (i, a.eval x)) cells (by rw [← hb]; simp)
      simp [execOp, this]
    unfold buildV at hv
    split at hv
    · rename_i z fs hz hu
      split at hv
      · rename_i hall
        obtain ⟨cs, hc, rfl⟩ := Option.map_eq_some_iff.1 hv
        cases hi : P.info? t with
          | none => unfold zeroT at hz; simp [hi] at hz
          | some it =>
            obtain ⟨hz', hf⟩ := zeroT_info (P := P) (e := t) (i := it) (z := z) hi hz
            have hm : ∀ l : List Field, (l.all fun f => (sizeT P f.type).isSome) = true → (l.mapM fun f => (P.info? f.type).map fun i => (f.offset, i.size)) =
                some (l.map fun f => (f.offset, (sizeT P f.type).getD 0)) := by
              intro l
              induction l with
              | nil => intro _; rfl
              | cons f r ih =>
                intro hl
                simp only [List.all_cons, Bool.and_eq_true] at hl
                obtain ⟨h1, h2⟩ := hl
                unfold sizeT at h1
                cases hif : P.info? f.type with
                | none => simp [hif] at h1
                | some fi => simp [List.mapM_cons, hif, ih h2, sizeT]
            obtain ⟨cs1', hfill, hl⟩ := fill_sound (σ := σ) (place' := fun i => ((fs.toList.map fun f => (f.offset, (sizeT P f.type).getD 0)).toArray)[i]?) (fun i x hx => by
              cases hfi : fs[i]? with
              | none => simp [hfi] at hx
              | some f =>
                simp only [hfi] at hx
                cases hsf : sizeT P f.type with
                | none => simp [hsf] at hx
                | some s => simp [hsf] at hx; subst hx; simp [hfi, hsf]) hc hpr (cs' := z.cells) (LR.of_plain (all_plain_cells hf))
            refine ⟨cs1', ?_, ?_⟩
            · simp only [Program.built, hi, hu, hz', hm fs.toList hall]
              exact hfill
            · have := VR.aggL hl
              simpa using this
      · cases hv
    · rename_i z n e hz hu
      split at hv
      · rename_i s hs
        cases hc : fillS (fun i => some (i * s, s)) z.cells.toList ps with
        | none => simp [hc] at hv
        | some cs =>
          simp only [hc, Option.map_some, Option.some.injEq] at hv
          subst hv
          cases hi : P.info? t with
          | none => unfold zeroT at hz; simp [hi] at hz
          | some it =>
            obtain ⟨hz', hf⟩ := zeroT_info (P := P) (e := t) (i := it) (z := z) hi hz
            obtain ⟨cs1', hfill, hl⟩ := fill_sound (σ := σ) (place' := fun i => some (i * s, s)) (fun i x hx => hx) hc hpr (cs' := z.cells) (LR.of_plain (all_plain_cells hf))
            unfold sizeT at hs
            cases hie : P.info? e with
            | none => simp [hie] at hs
            | some ie =>
              simp [hie] at hs
              refine ⟨cs1', ?_, by simpa using VR.aggL hl⟩
              simp only [Program.built, hi, hu, hz', hie, hs]
              exact hfill
      · cases hv
    · cases hv
  · cases h

theorem s_buildSlice {t : TypeId} {n : Nat} {parts : Array (Nat × Operand)} (h : oBuildSlice P t n parts.toList T H = some (v, H')) : OpS P ⟨dst, .buildSlice t n parts, type, pos, after, guard⟩ T H v H' := by
  unfold oBuildSlice at h
  split at h
  · rename_i ps hps
    unfold buildSliceV at h
    split at h
    · rename_i e hu
      split at h
      · rename_i s z hs hz
        split at h
        · rename_i hc
          obtain ⟨h1, h2, h3⟩ := hc
          split at h
          · rename_i cs hcs
            split at h
            · rw [allocK_eq] at h
              simp only [Option.some.injEq, Prod.mk.injEq] at h
              obtain ⟨rfl, rfl⟩ := h
              intro σ a w hfr hlt hok
              have hpr := evParts_sound hfr hps
              obtain ⟨hzr, hf⟩ := zeroT_run hz w
              have hsr := sizeT_run hs w
              have hmade : ((Array.range (n * s)).map (z.cells[· % z.cells.size]!)).toList = (List.replicate n z.cells.toList).flatten := by
                rw [← h2]; exact made_flatten z.cells n
              obtain ⟨cs1', hfill, hl⟩ := fill_sound (σ := σ) (place' := fun i => some (i * s, s)) (fun i x hx => hx) hcs hpr (cs' := (Array.range (n * s)).map (z.cells[· % z.cells.size]!))
                (by rw [hmade]; exact LR.of_plain (all_replicate (all_plain_cells hf) _))
              refine ⟨.value (.slice (some ⟨w.heap.size, 0 + 0, none⟩) n (n + 0)), .slice (some ⟨w.heap.size, 0 + 0, none⟩) n (n + 0), w.alloc (.cells cs1' e), upS σ H.next (w.heap.size, 0, 0), ?_, rfl, .slice (upS_same _ _ _), ?_⟩
              · have hn : ¬ (n * s > 16777216) := by simpa using h1
                by_cases h0 : n * s = 0
                · have hn0 : n = 0 := by
                    rcases Nat.mul_eq_zero.1 h0 with h | h
                    · exact h
                    · omega
                  subst hn0
                  have hr0 : ∀ f : Nat → Value, (Array.range 0).map f = #[] := fun f => by simp [Array.range]
                  simp only [Nat.zero_mul, hr0] at hfill
                  simp [execOp, Instr.buildSlice, run_underlying hu, hsr, hr0, hfill, newRow]
                · simp [execOp, Instr.buildSlice, run_underlying hu, hsr, hn, h0, hzr, hfill, newRow]
              · refine .newBlk hlt rfl rfl rfl rfl (fun b x j hb => by simp [Wrs, fpOf] at hb) ?_
                exact .newCells (c := cs1') (t := e) (fr := (0, 0)) (heap_push_new _ _) (fun _ => rfl) ⟨_, [], by rw [List.append_nil], hl.mono (upS_mono hlt.next), by simp⟩ (.inl rfl)
            · cases h
          · cases h
        · cases h
      · cases h
    · cases h
  · cases h
end
end Go.Vm

namespace Go.Vm
variable {P : Program}

theorem lr_bytes {σ : Sg} (s : ByteArray) : LR σ (bytesCells s) (bytesCells s) := LR.of_plain (by
  unfold bytesCells
  rw [List.all_map]
  exact List.all_eq_true.2 fun _ _ => rfl)

/-- What append and copy take from. -/
theorem srcCells_sound {σ : Sg} {H : Heap} {w : World} {size k : Nat} {x x' : Value} {new : List Value} (h : srcCells H size x = some (k, new)) (hx : VR σ x x')
    (hok : ∀ b y j, b ∈ blkOf x → σ b = some y → H.get b = some j → BlkOK σ w y j) :
    ∃ new', LR σ new new' ∧ (∀ w : World, (Builtin.lenOf x').run P w = .ok k w) ∧
      ∀ w' : World, w'.heap = w.heap → (Builtin.firstCells size k x').run P w' = .ok new'.toArray w' ∧
        ((∃ a n c, x = .slice (some a) n c) → ∀ m, m ≤ k → (Builtin.firstCells size m x').run P w' = .ok (new'.take (m * size)).toArray w') := by
  unfold srcCells at h
  split at h
  · rename_i a n c
    obtain ⟨cs, hc, he⟩ := Option.map_eq_some_iff.1 h
    simp only [Prod.mk.injEq] at he
    obtain ⟨rfl, rfl⟩ := he
    obtain ⟨b, off, r, d, s, rfl, hσ, rfl⟩ := hx.slice_inv
    obtain ⟨cs', hl, hn, hcell⟩ := cellsAt_sound hc hσ (fun j hj => hok b _ j (by simp [blkOf]) hσ hj)
    refine ⟨cs', hl, fun w => rfl, fun w' hw => ⟨?_, fun _ m hm => ?_⟩⟩
    · exact run_firstCells_some (P := P) w' size n _ n _ cs' hn (fun j v hv => by rw [← hcell j v hv]; simp [World.cell?, hw])
    · refine run_firstCells_some (P := P) w' size m _ n _ (cs'.take (m * size)) (by rw [List.length_take, hn]; have := Nat.mul_le_mul_right size hm; omega) (fun j v hv => ?_)
      rw [List.getElem?_take] at hv
      split at hv
      · rw [← hcell j v hv]; simp [World.cell?, hw]
      · cases hv
  · simp only [Option.some.injEq, Prod.mk.injEq] at h
    obtain ⟨rfl, rfl⟩ := h
    have := hx.plain_eq rfl; subst this
    refine ⟨[], .nil, fun w => rfl, fun w' _ => ⟨rfl, fun ⟨_, _, _, h⟩ => by cases h⟩⟩
  · rename_i s
    simp only [Option.some.injEq, Prod.mk.injEq] at h
    obtain ⟨rfl, rfl⟩ := h
    have := hx.plain_eq rfl; subst this
    have hfc : ∀ w' : World, (Builtin.firstCells size s.size (.string s)).run P w' = .ok (bytesCells s).toArray w' := by
      intro w'
      simp only [Builtin.firstCells]
      have e : s.extract 0 s.size = s := by
        apply ByteArray.ext
        have hsz : s.size = s.data.size := rfl
        rw [ByteArray.data_extract, hsz, Array.extract_size]
      rw [e]
      have e2 : s.data.map (fun b : UInt8 => Value.int .u8 b.toNat) = (bytesCells s).toArray := by
        apply Array.ext'
        simp [bytesCells]
      rw [e2]; rfl
    exact ⟨bytesCells s, lr_bytes s, fun w => rfl, fun w' _ => ⟨hfc w', fun ⟨_, _, _, h⟩ => by cases h⟩⟩
  · cases h

section
variable (w : World) {t u ty e : TypeId} {xt : TypeDesc} {i : TypeInfo} {x : Value} {k : Nat} {new : List Value}

theorem app_room (ht : P.underlying t = some (.slice e)) (hu : P.underlying u = some xt) (hxt : ∀ k, xt ≠ .int k) (hi : P.info? e = some i)
    (hlen : (Builtin.lenOf x).run P w = .ok k w) (hfc : (Builtin.firstCells i.size k x).run P w = .ok new.toArray w) {a : Addr} {n c : Nat} (hroom : n + k ≤ c) {rest : List TypeId} :
    (Builtin.append_ ⟨t :: u :: rest⟩ ty #[.slice (some a) n c, x]).run P w = ((storeCells (a.add (n * i.size)) new).run P w).andThen fun _ w' => .ok (.slice (some a) (n + k) c) w' := by
  have hz : (match xt with | TypeDesc.int _ => true | _ => false) = false := by
    cases xt <;> first | rfl | exact absurd rfl (hxt _)
  simp only [Builtin.append_]
  simp [run_underlying ht, run_underlying hu, sizeOf, typeInfo, hi, hlen, hroom, hfc]

theorem app_room0 (ht : P.underlying t = some (.slice e)) (hu : P.underlying u = some xt) (hxt : ∀ k, xt ≠ .int k) (hi : P.info? e = some i)
    (hlen : (Builtin.lenOf x).run P w = .ok 0 w) (hfc : (Builtin.firstCells i.size 0 x).run P w = .ok #[] w) {n c : Nat} (hroom : n ≤ c) {rest : List TypeId} :
    (Builtin.append_ ⟨t :: u :: rest⟩ ty #[.slice none n c, x]).run P w = .ok (.slice none n c) w := by
  simp only [Builtin.append_]
  simp [run_underlying ht, run_underlying hu, sizeOf, typeInfo, hi, hlen, hroom, hfc]

theorem app_grow (ht : P.underlying t = some (.slice e)) (hu : P.underlying u = some xt) (hxt : ∀ k, xt ≠ .int k) (hi : P.info? e = some i) {z : Value} (hz : i.zero = some z)
    (hlen : (Builtin.lenOf x).run P w = .ok k w) (hfc : ∀ w' : World, w'.heap = w.heap → (Builtin.firstCells i.size k x).run P w' = .ok new.toArray w') {b : Option Addr} {n c : Nat} {old : List Value}
    (hold : (Builtin.firstCells i.size n (.slice b n c)).run P w.drew = .ok old.toArray w.drew)
    (hg : c < n + k) (hb : (n + k) * i.bytes ≤ roomV) (hr : n + k ≤ roomV) {rest : List TypeId} :
    (Builtin.append_ ⟨t :: u :: rest⟩ ty #[.slice b n c, x]).run P w =
      .ok (.slice (some ⟨w.heap.size, 0, none⟩) (n + k) (grownCap w (n + k) c e))
        (w.drew.alloc (.cells ((old ++ new).toArray ++ Builtin.zeroCells z.cells (grownCap w (n + k) c e - (n + k))) e)) := by
  have hroom : roomV = 68719476736 := by decide
  have hn : ¬ (n + k ≤ c) := by omega
  have h63' : ¬ (9223372036854775807 < ((n : Int) + (k : Int))) := by omega
  have h48' : ¬ (281474976710656 < Builtin.nextslicecap (n + k) c * i.bytes) := by
    have h1 := Nat.mul_le_mul_right i.bytes (nextslicecap_le hg)
    have h2 : 2 * (n + k) * i.bytes = 2 * ((n + k) * i.bytes) := by rw [Nat.mul_assoc]
    omega
  have hnew := hfc w.drew rfl
  simp only [Builtin.append_]
  simp [run_underlying ht, run_underlying hu, sizeOf, typeInfo, zeroValue, hi, hz, hlen, hn, h63', h48', Question.forced, hnew, hold, newRow, grownCap]
  congr 2
  apply Array.ext'
  simp [List.append_assoc]
end

theorem size_zero (z : Array Value) (n : Nat) : (Builtin.zeroCells z n).toList.length = n * z.size := by simp [Builtin.zeroCells]

/-- The machine's append made a new array. -/
theorem LRes.grown {σ : Sg} {H : Heap} {w w' : World} {Wr : Nat → Prop} {k : Blk} {s : Nat} {o : Obj} {b : Nat} (hlt : Lt σ H w) (hh : w'.heap = w.heap.push o)
    (hos : w'.os = w.os) (htape : w'.tape = w.tape) (hout : w'.output = w.output) (hb : b < H.next) (hbW : Wr b) (hf : H.floor ≤ b) (hwr : WR H b)
    (hWr : ∀ b' x j, Wr b' → σ b' = some x → H.get b' = some j → BlkOK σ w x j) (hk : BlkOK (upS σ H.next (w.heap.size, 0, s)) w' (w.heap.size, 0, s) k) :
    LRes σ H w (upS σ H.next (w.heap.size, 0, s)) ((H.put b none).new k) w' Wr where
  next := by simp [Heap.new, Heap.put]
  next1 := by simp [Heap.new, Heap.put]
  floor := rfl
  sub b hb := upS_ne σ _ (by omega)
  lt b x hx := by
    by_cases e : b = H.next
    · subst e
      rw [upS_same] at hx
      simp only [Option.some.injEq] at hx; subst hx
      exact ⟨by simp [Heap.new, Heap.put], by simp [hh]⟩
    · rw [upS_ne σ _ e] at hx
      have := hlt b x hx
      exact ⟨by simp [Heap.new, Heap.put]; omega, by simp [hh]; omega⟩
  same b' hb' hn := by
    have e1 : ¬ b' = (H.put b none).next := by show ¬ b' = H.next; omega
    have e2 : ¬ b' = b := fun e => hn (e ▸ hbW)
    rw [Heap.get_new, if_neg e1, Heap.get_put, if_neg e2]
  wr b' hb' _ := by
    have e1 : ¬ b' = (H.put b none).next := by show ¬ b' = H.next; omega
    by_cases e2 : b' = b
    · subst e2
      exact .inr ⟨hf, hwr, .inl (by rw [Heap.get_new, if_neg e1, Heap.get_put, if_pos rfl])⟩
    · exact .inl (by rw [Heap.get_new, if_neg e1, Heap.get_put, if_neg e2])
  ok b' x j hb' hx hj := by
    by_cases e : b' = H.next
    · subst e
      rw [upS_same] at hx
      simp only [Option.some.injEq] at hx; subst hx
      rw [Heap.get_new, if_pos (show H.next = (H.put b none).next from rfl)] at hj
      simp only [Option.some.injEq] at hj; subst hj
      exact hk
    · rw [upS_ne σ _ e] at hx
      have e1 : ¬ b' = (H.put b none).next := e
      rw [Heap.get_new, if_neg e1, Heap.get_put] at hj
      split at hj
      · cases hj
      · have hx2 := hlt b' x hx
        refine (hWr b' x j (hb'.resolve_right (by omega)) hx hj).mono (upS_mono hlt.next) ?_
        rw [hh, heap_push_old _ _ _ hx2.2]
  newr b' x hb' hx := by
    by_cases e : b' = H.next
    · subst e
      rw [upS_same] at hx
      simp only [Option.some.injEq] at hx; subst hx
      exact .inl (Nat.le_refl _)
    · rw [upS_ne σ _ e] at hx
      have := (hlt b' x hx).1; omega
  os := hos
  tape := htape
  output := hout
  size := by simp [hh]
  frame r hr := .inl (by rw [hh, heap_push_old _ _ _ hr])

/-- The machine's append wrote into the spare part of the old array. -/
theorem LRes.inPlace {σ : Sg} {H : Heap} {w w' : World} {Wr : Nat → Prop} {k : Blk} {r d s d' s' : Nat} {b : Nat} (hlt : Lt σ H w) (hσ : σ b = some (r, d, s))
    (hsz : w'.heap.size = w.heap.size) (hoth : ∀ r', r' ≠ r → w'.heap[r']? = w.heap[r']?)
    (hos : w'.os = w.os) (htape : w'.tape = w.tape) (hout : w'.output = w.output) (hbW : Wr b) (hW1 : ∀ b', Wr b' → b' = b) (hf : H.floor ≤ b) (hwr : WR H b)
    (hk : BlkOK (upS σ H.next (r, d', s')) w' (r, d', s') k) :
    LRes σ H w (upS σ H.next (r, d', s')) ((H.put b none).new k) w' Wr where
  next := by simp [Heap.new, Heap.put]
  next1 := by simp [Heap.new, Heap.put]
  floor := rfl
  sub b hb := upS_ne σ _ (by omega)
  lt b' x hx := by
    by_cases e : b' = H.next
    · subst e
      rw [upS_same] at hx
      simp only [Option.some.injEq] at hx; subst hx
      exact ⟨by simp [Heap.new, Heap.put], by rw [hsz]; exact (hlt b _ hσ).2⟩
    · rw [upS_ne σ _ e] at hx
      have := hlt b' x hx
      exact ⟨by simp [Heap.new, Heap.put]; omega, by omega⟩
  same b' hb' hn := by
    have e1 : ¬ b' = (H.put b none).next := by show ¬ b' = H.next; omega
    have e2 : ¬ b' = b := fun e => hn (e ▸ hbW)
    rw [Heap.get_new, if_neg e1, Heap.get_put, if_neg e2]
  wr b' hb' hw := by
    have e1 : ¬ b' = (H.put b none).next := by show ¬ b' = H.next; omega
    have e2 := hW1 b' hw
    subst e2
    exact .inr ⟨hf, hwr, .inl (by rw [Heap.get_new, if_neg e1, Heap.get_put, if_pos rfl])⟩
  ok b' x j hb' hx hj := by
    by_cases e : b' = H.next
    · subst e
      rw [upS_same] at hx
      simp only [Option.some.injEq] at hx; subst hx
      rw [Heap.get_new, if_pos (show H.next = (H.put b none).next from rfl)] at hj
      simp only [Option.some.injEq] at hj; subst hj
      exact hk
    · rw [upS_ne σ _ e] at hx
      have e1 : ¬ b' = (H.put b none).next := e
      have hx2 := hlt b' x hx
      have e2 := hW1 b' (hb'.resolve_right (by omega))
      subst e2
      rw [Heap.get_new, if_neg e1, Heap.get_put, if_pos rfl] at hj
      cases hj
  newr b' x hb' hx := by
    by_cases e : b' = H.next
    · subst e
      rw [upS_same] at hx
      simp only [Option.some.injEq] at hx; subst hx
      have hb := (hlt b _ hσ).1
      have e1 : ¬ b = (H.put b none).next := by show ¬ b = H.next; omega
      exact .inr ⟨b, _, hbW, hf, hwr, hσ, rfl, by rw [Heap.get_new, if_neg e1, Heap.get_put, if_pos rfl]⟩
    · rw [upS_ne σ _ e] at hx
      have := (hlt b' x hx).1; omega
  os := hos
  tape := htape
  output := hout
  size := by omega
  frame r' hr' := by
    by_cases e : r' = r
    · subst e; exact .inr ⟨b, _, hbW, hf, hwr, hσ, rfl⟩
    · exact .inl (hoth r' e)

end Go.Vm

namespace Go.Vm
variable {P : Program}

theorem srcCells_zero {H : Heap} {size k : Nat} {x : Value} {new : List Value} (h : srcCells H size x = some (k, new)) : new.length = k * size ∨ ∃ s : ByteArray, x = .string s ∧ new.length = k := by
  unfold srcCells at h
  split at h
  · obtain ⟨cs, hc, he⟩ := Option.map_eq_some_iff.1 h
    simp only [Prod.mk.injEq] at he
    obtain ⟨rfl, rfl⟩ := he
    obtain ⟨_, all, lo, ro, hg, hle, rfl⟩ := cellsAt_some hc
    left
    simp; omega
  · simp only [Option.some.injEq, Prod.mk.injEq] at h
    obtain ⟨rfl, rfl⟩ := h
    left; simp
  · simp only [Option.some.injEq, Prod.mk.injEq] at h
    obtain ⟨rfl, rfl⟩ := h
    right
    exact ⟨_, rfl, by simp [bytesCells]⟩
  · cases h

theorem srcCells_nil {H : Heap} {size k : Nat} {x : Value} {new : List Value} (h : srcCells H size x = some (k, new)) (hk : k = 0) : new = [] := by
  refine List.eq_nil_of_length_eq_zero ?_
  rcases srcCells_zero h with h | ⟨_, _, h⟩
  · rw [hk, Nat.zero_mul] at h; exact h
  · rw [h, hk]

theorem bind_und {ts : Array TypeId} {n : Nat} {d : TypeDesc} (h : (ts[n]?).bind P.underlying = some d) : ∃ t, ts[n]? = some t ∧ P.underlying t = some d := by
  cases ht : ts[n]? with
  | none => simp [ht] at h
  | some t => exact ⟨t, rfl, by simpa [ht] using h⟩

theorem two_types {ts : Array TypeId} {t u : TypeId} (h0 : ts[0]? = some t) (h1 : ts[1]? = some u) : ∃ rest, ts = ⟨t :: u :: rest⟩ := by
  obtain ⟨l⟩ := ts
  cases l with
  | nil => simp at h0
  | cons a r => cases r with
    | nil => simp at h1
    | cons b r => simp at h0 h1; subst h0; subst h1; exact ⟨r, rfl⟩

section
variable {dst : Option Tmp} {type : TypeId} {pos : String} {after : Array Edge} {guard : Option (Nat × Bool)} {T : Frm} {H H' : Heap} {v : Value}

theorem s_append {xo yo : Operand} {argTypes : Array TypeId} {u u2 : Value} (hx : evO T xo = some u) (hy : evO T yo = some u2) (h : appendV P H argTypes u u2 = some (v, H')) :
    OpS P ⟨dst, .call ⟨.builtin .append, #[xo, yo], argTypes⟩, type, pos, after, guard⟩ T H v H' := by
  unfold appendV at h
  split at h
  · rename_i e xt hu0 hu1
    obtain ⟨t0, ht0, hu0⟩ := bind_und hu0
    obtain ⟨t1, ht1, hu1⟩ := bind_und hu1
    obtain ⟨rest, rfl⟩ := two_types ht0 ht1
    split at h
    · cases h
    · rename_i hxt
      have hxt : ∀ k, xt ≠ .int k := fun k hk => hxt k hk
      split at h
      · rename_i i base n cap hi
        split at h
        · rename_i k new hsrc
          have hWr : ∀ b, Wrs T ⟨dst, .call ⟨.builtin .append, #[xo, yo], ⟨t0 :: t1 :: rest⟩⟩, type, pos, after, guard⟩ b ↔ b ∈ blkOf (.slice base n cap) := fun b => by
            simp [Wrs, fpOf, blkO, hx]
          have hTo : ∀ b, Touch T ⟨dst, .call ⟨.builtin .append, #[xo, yo], ⟨t0 :: t1 :: rest⟩⟩, type, pos, after, guard⟩ b ↔ (b ∈ blkOf u2 ∨ b ∈ blkOf (.slice base n cap)) := fun b => by
            simp [Touch, fpOf, blkO, hx, hy]
          intro σ a w hfr hlt hok
          have hrx := evO_sound hfr hx
          have hry := evO_sound hfr hy
          have hokW : ∀ b x j, Wrs T ⟨dst, .call ⟨.builtin .append, #[xo, yo], ⟨t0 :: t1 :: rest⟩⟩, type, pos, after, guard⟩ b → σ b = some x → H.get b = some j → BlkOK σ w x j :=
            fun b x j hb => hok b x j ((hTo b).2 (.inr ((hWr b).1 hb)))
          obtain ⟨new', hnew, hlen, hfc⟩ := srcCells_sound hsrc hry (fun b y j hb => hok b y j ((hTo b).2 (.inl hb)))
          have exec : ∀ x, a.eval xo = x → ∀ r, (Builtin.append_ ⟨t0 :: t1 :: rest⟩ type #[x, a.eval yo]).run P w = r →
              (execOp a.eval ⟨dst, .call ⟨.builtin .append, #[xo, yo], ⟨t0 :: t1 :: rest⟩⟩, type, pos, after, guard⟩).run P w = r.andThen fun v w => .ok (.value v) w := by
            intro x hx r hr
            subst hx
            simp [execOp, resolve, invoke, builtin, hr]
          split at h
          · rename_i hroom
            split at h
            · rename_i ad
              obtain ⟨b, off, r, d, s, rfl, hσ, ex⟩ := hrx.slice_inv
              have hrun := app_room (P := P) w (ty := type) hu0 hu1 hxt hi (hlen w) (hfc w rfl).1 (a := ⟨r, d + off, none⟩) (n := n) (c := cap + s) (by omega) (rest := rest)
              split at h
              · rename_i hk0
                simp only [Option.some.injEq, Prod.mk.injEq] at h
                obtain ⟨rfl, rfl⟩ := h
                have hnil : new' = [] := by
                  have hl := hnew.len
                  refine List.eq_nil_of_length_eq_zero ?_
                  rw [← hl, srcCells_nil hsrc (by first | assumption | rfl)]
                  rfl
                subst hnil
                refine ⟨.value (.slice (some ⟨r, d + off, none⟩) n (cap + s)), .slice (some ⟨r, d + off, none⟩) n (cap + s), w, σ, ?_, rfl, .slice hσ, .idl hlt hokW⟩
                rw [exec _ ex _ hrun]
                subst hk0
                simp [storeCells]
              · cases hp : putCells H ⟨b, off + n * i.size, none⟩ new with
                | none => simp [hp] at h
                | some H2 =>
                  simp only [hp, Option.map_some, Option.some.injEq, Prod.mk.injEq] at h
                  obtain ⟨rfl, rfl⟩ := h
                  obtain ⟨w', hst, hL⟩ := putCells_sound (P := P) hp hσ hlt hokW ((hWr b).2 (by simp [blkOf])) (fun b' hb' => by simpa [blkOf] using (hWr b').1 hb') hnew
                  refine ⟨.value (.slice (some ⟨r, d + off, none⟩) (n + k) (cap + s)), .slice (some ⟨r, d + off, none⟩) (n + k) (cap + s), w', σ, ?_, rfl, .slice hσ, hL⟩
                  rw [exec _ ex _ hrun]
                  simp only at hst
                  rw [add_none, Nat.add_assoc, hst]
                  rfl
            · split at h
              · rename_i hk0
                simp only [Option.some.injEq, Prod.mk.injEq] at h
                obtain ⟨rfl, rfl⟩ := h
                subst hk0
                have ex := hrx.plain_eq rfl
                have hnil : new' = [] := by
                  have hl := hnew.len
                  refine List.eq_nil_of_length_eq_zero ?_
                  rw [← hl, srcCells_nil hsrc (by first | assumption | rfl)]
                  rfl
                subst hnil
                have hrun := app_room0 (P := P) w (ty := type) hu0 hu1 hxt hi (hlen w) (hfc w rfl).1 (n := n) (c := cap) (by omega) (rest := rest)
                refine ⟨.value (.slice none n cap), .slice none n cap, w, σ, ?_, rfl, .plain rfl, .idl hlt hokW⟩
                rw [exec _ ex _ hrun]
                rfl
              · cases h
          · rename_i hroom
            split at h
            · rename_i hc
              obtain ⟨hb, hr, hpos, hzs⟩ := hc
              obtain ⟨z, hz, hzc⟩ := Option.map_eq_some_iff.1 hzs
              obtain ⟨hz', hf⟩ := zeroT_info hi hz
              split at h
              · split at h
                · rename_i hn0
                  rw [allocK_eq] at h
                  simp only [Option.some.injEq, Prod.mk.injEq] at h
                  have hv1 := h.1
                  have hv2 := h.2
                  clear h
                  subst hv1
                  subst hv2
                  subst hn0
                  have ex := hrx.plain_eq rfl
                  have hrun := app_grow (P := P) w (ty := type) hu0 hu1 hxt hi hz' (hlen w) (fun w' hw => (hfc w' hw).1) (b := none) (n := 0) (c := cap) (old := []) (by simp [Builtin.firstCells]) (by omega) hb hr (rest := rest)
                  have hge := grownCap_ge w (0 + k) cap e
                  simp only [Nat.zero_add, List.nil_append] at hrun hge
                  refine ⟨.value (.slice (some ⟨w.heap.size, 0 + 0, none⟩) k (k + (grownCap w k cap e - k))), .slice (some ⟨w.heap.size, 0 + 0, none⟩) k (k + (grownCap w k cap e - k)), w.drew.alloc (.cells (new'.toArray ++ Builtin.zeroCells z.cells (grownCap w k cap e - k)) e), upS σ H.next (w.heap.size, 0, grownCap w k cap e - k), ?_, rfl, .slice (upS_same _ _ _), ?_⟩
                  · rw [exec _ ex _ hrun]
                    rw [show k + (grownCap w k cap e - k) = grownCap w k cap e by omega]
                    rfl
                  · refine .newBlk hlt rfl rfl rfl rfl hokW ?_
                    refine .newCells (fr := (0, 0)) (heap_push_new _ _) (by simp) ⟨new', _, by simp; rfl, hnew.mono (upS_mono hlt.next), fun z' hz2 => ?_⟩ (.inl rfl)
                    simp only [Option.some.injEq] at hz2
                    subst hz2
                    rw [size_zero, hzc]
                    exact Nat.le_refl _
                · cases h
              · rename_i ad
                obtain ⟨b, off, r, d, s, rfl, hσ, ex⟩ := hrx.slice_inv
                have hbW := (hWr b).2 (by simp [blkOf])
                have hb1 : b < H.next := (hlt b _ hσ).1
                have hrl : r < w.heap.size := (hlt b _ hσ).2
                split at h
                · rename_i cs ro hsp hg
                  split at h
                  · rename_i hoff
                    rw [allocK_eq] at h
                    simp only [Option.some.injEq, Prod.mk.injEq] at h
                    obtain ⟨rfl, rfl⟩ := h
                    obtain ⟨hs0, c, t, fr, hh, hcl, hv, -, -⟩ := hokW b _ _ hbW hσ hg
                    have hs0 := hs0 rfl
                    simp only at hs0 hh hcl hv
                    subst hs0
                    obtain ⟨old, hold, holdl, hcell⟩ := cellsAt_sound (σ := σ) (H := H) (w := w) (a := ⟨b, off, none⟩) (n := n * i.size) (cs := (cs.drop off).take (n * i.size)) (by simp [cellsAt, hg, hoff]) hσ
                      (fun j hj => hokW b _ j hbW hσ hj)
                    have hrun := app_grow (P := P) w (ty := type) hu0 hu1 hxt hi hz' (hlen w) (fun w' hw => (hfc w' hw).1) (b := some ⟨r, d + off, none⟩) (n := n) (c := cap) (old := old)
                      (run_firstCells_some (P := P) w.drew i.size n _ n cap old holdl (by simpa using hcell)) (by omega) hb hr (rest := rest)
                    have hge := grownCap_ge w (n + k) cap e
                    refine ⟨.value (.slice (some ⟨w.heap.size, 0 + 0, none⟩) (n + k) (n + k + (grownCap w (n + k) cap e - (n + k)))), .slice (some ⟨w.heap.size, 0 + 0, none⟩) (n + k) (n + k + (grownCap w (n + k) cap e - (n + k))), w.drew.alloc (.cells ((old ++ new').toArray ++ Builtin.zeroCells z.cells (grownCap w (n + k) cap e - (n + k))) e), upS σ H.next (w.heap.size, 0, grownCap w (n + k) cap e - (n + k)), ?_, rfl, .slice (upS_same _ _ _), ?_⟩
                    · rw [exec _ ex _ hrun]
                      rw [show n + k + (grownCap w (n + k) cap e - (n + k)) = grownCap w (n + k) cap e by omega]
                      rfl
                    · refine .newBlk hlt rfl rfl rfl rfl hokW ?_
                      refine .newCells (fr := (0, 0)) (heap_push_new _ _) (by simp) ⟨old ++ new', _, by simp; rfl, (hold.append hnew).mono (upS_mono hlt.next), fun z' hz2 => ?_⟩ (.inl rfl)
                      simp only [Option.some.injEq] at hz2
                      subst hz2
                      rw [size_zero, hzc]
                      exact Nat.le_refl _
                  · cases h
                · rename_i cs z' hsp hg
                  split at h
                  · rename_i hoff
                    obtain ⟨hz0, hoff, hcap, hfl, hnone⟩ := hoff
                    simp only at hoff hcap hfl
                    subst hz0
                    rw [allocK_eq] at h
                    simp only [Option.some.injEq, Prod.mk.injEq] at h
                    obtain ⟨rfl, rfl⟩ := h
                    obtain ⟨-, c, t, fr, hh, hcl, hv, hfr', hsz⟩ := hokW b _ _ hbW hσ hg
                    have hsz := hsz _ rfl
                    simp only at hh hcl hv hsz
                    have hwr : WR H b := by simp [WR, hg]
                    obtain ⟨old, hold, holdl, hcell⟩ := cellsAt_sound (σ := σ) (H := H) (w := w) (a := ⟨b, off, none⟩) (n := n * i.size) (cs := (cs.drop off).take (n * i.size)) (by simp [cellsAt, hg, hoff]) hσ
                      (fun j hj => hokW b _ j hbW hσ hj)
                    have holdn : old.length = n * i.size := holdl
                    by_cases hreal : n + k ≤ cap + s
                    · -- in place
                      have hrun := app_room (P := P) w (ty := type) hu0 hu1 hxt hi (hlen w) (hfc w rfl).1 (a := ⟨r, d + off, none⟩) (n := n) (c := cap + s) hreal (rest := rest)
                      have hnl := hnew.len
                      have hbound : d + off + n * i.size + new.length ≤ c.size := by
                        have hnk : new.length ≤ k * i.size := by
                          rcases srcCells_zero hsrc with h | ⟨_, _, h⟩
                          · omega
                          · rw [h]; exact Nat.le_mul_of_pos_right _ hpos
                        have h1 := Nat.mul_le_mul_right i.size hreal
                        rw [Nat.add_mul, Nat.add_mul] at h1
                        omega
                      have hone : ∀ v ∈ new', v.oneCell' = true := by
                        intro v hv'
                        obtain ⟨j, hj⟩ := List.mem_iff_getElem?.1 hv'
                        have hj2 : j < new.length := by rw [hnl]; exact (List.getElem?_eq_some_iff.1 hj).1
                        rw [(hnew.at_ j new[j] v (by simp [hj2]) hj).oneCell]
                        exact List.all_eq_true.1 hnone _ (List.getElem_mem hj2)
                      have hst := run_storeCells_fr (P := P) r (d + off + n * i.size) t fr new' 0 c w hh (fun j h0 hj => by have := hfr' rfl; omega) (by omega) hone
                      rw [show d + off + n * i.size + 0 = d + off + n * i.size from rfl] at hst
                      have hsp : (List.take (d + off + n * i.size) c.toList ++ new' ++ List.drop (d + off + n * i.size + new'.length) c.toList) = splice c.toList (d + off + n * i.size) new' := rfl
                      rw [hsp] at hst
                      have hset := setRow_heap w r c (splice c.toList (d + off + n * i.size) new').toArray t fr hh
                      refine ⟨.value (.slice (some ⟨r, d + off + 0, none⟩) (n + k) (n + k + (cap + s - (n + k)))), .slice (some ⟨r, d + off + 0, none⟩) (n + k) (n + k + (cap + s - (n + k))), w.setRow r (splice c.toList (d + off + n * i.size) new').toArray, upS σ H.next (r, d + off, cap + s - (n + k)), ?_, rfl, .slice (upS_same _ _ _), ?_⟩
                      · rw [exec _ ex _ hrun, add_none, hst, show n + k + (cap + s - (n + k)) = cap + s by omega]
                        rfl
                      · refine .inPlace hlt hσ (by simp) (fun r' hr' => setRow_other w r r' _ hr') rfl rfl rfl hbW (fun b' hb' => by simpa [blkOf] using (hWr b').1 hb') hfl hwr ?_
                        have hcl' : d + off + n * i.size + new'.length ≤ c.toList.length := by simp; omega
                        refine ⟨by simp, _, t, fr, hset, ?_, fun j u hu => ?_, fun _ => by simp; rw [splice_length hcl']; simpa using hfr' rfl, fun z' hz2 => ?_⟩
                        · simp only [List.length_append, List.length_take, List.length_drop, List.size_toArray]
                          rw [splice_length hcl']
                          simp; omega
                        · simp only [List.getElem?_toArray]
                          rw [splice_get hcl']
                          have hlen1 : ((cs.drop off).take (n * i.size)).length = n * i.size := by simp; omega
                          by_cases hj : j < n * i.size
                          · rw [List.getElem?_append_left (by omega), List.getElem?_take, if_pos hj, List.getElem?_drop] at hu
                            rw [if_neg (by omega)]
                            obtain ⟨v', h1, h2⟩ := hv _ _ hu
                            refine ⟨v', ?_, h2.mono (upS_mono hlt.next)⟩
                            rw [Array.getElem?_toList, ← h1]
                            congr 1
                            omega
                          · rw [List.getElem?_append_right (by omega), hlen1] at hu
                            have hj2 : j - n * i.size < new'.length := by rw [← hnl]; exact (List.getElem?_eq_some_iff.1 hu).1
                            rw [if_pos (by omega)]
                            refine ⟨new'[j - n * i.size], ?_, (hnew.at_ _ u _ hu (by simp [hj2])).mono (upS_mono hlt.next)⟩
                            rw [show d + off + j - (d + off + n * i.size) = j - n * i.size by omega]
                            simp [hj2]
                        · simp only [Option.some.injEq] at hz2
                          subst hz2
                          have h1 := Nat.mul_le_mul_right i.size hreal
                          rw [Nat.add_mul] at h1
                          have h2 : (n + k) * i.size + (cap + s - (n + k)) * i.size = (cap + s) * i.size := by rw [← Nat.add_mul]; congr 1; omega
                          have h3 : (cap + s) * i.size = cap * i.size + s * i.size := Nat.add_mul _ _ _
                          have hnk : new.length ≤ k * i.size := by
                            rcases srcCells_zero hsrc with h | ⟨_, _, h⟩
                            · omega
                            · rw [h]; exact Nat.le_mul_of_pos_right _ hpos
                          simp only [List.length_append, List.length_take, List.length_drop, List.size_toArray]
                          rw [splice_length hcl']
                          have h4 : (n + k) * i.size = n * i.size + k * i.size := Nat.add_mul _ _ _
                          simp only [Array.length_toList]
                          have h5 : min (n * i.size) (cs.length - off) = n * i.size := by omega
                          rw [h5]
                          omega
                    · have hrun := app_grow (P := P) w (ty := type) hu0 hu1 hxt hi hz' (hlen w) (fun w' hw => (hfc w' hw).1) (b := some ⟨r, d + off, none⟩) (n := n) (c := cap + s) (old := old)
                        (run_firstCells_some (P := P) w.drew i.size n _ n (cap + s) old holdl (by simpa using hcell)) (by omega) hb hr (rest := rest)
                      have hge := grownCap_ge w (n + k) (cap + s) e
                      refine ⟨.value (.slice (some ⟨w.heap.size, 0 + 0, none⟩) (n + k) (n + k + (grownCap w (n + k) (cap + s) e - (n + k)))), .slice (some ⟨w.heap.size, 0 + 0, none⟩) (n + k) (n + k + (grownCap w (n + k) (cap + s) e - (n + k))), w.drew.alloc (.cells ((old ++ new').toArray ++ Builtin.zeroCells z.cells (grownCap w (n + k) (cap + s) e - (n + k))) e), upS σ H.next (w.heap.size, 0, grownCap w (n + k) (cap + s) e - (n + k)), ?_, rfl, .slice (upS_same _ _ _), ?_⟩
                      · rw [exec _ ex _ hrun]
                        rw [show n + k + (grownCap w (n + k) (cap + s) e - (n + k)) = grownCap w (n + k) (cap + s) e by omega]
                        rfl
                      · refine .grown hlt rfl rfl rfl rfl hb1 hbW hfl hwr hokW ?_
                        refine .newCells (fr := (0, 0)) (heap_push_new _ _) (by simp) ⟨old ++ new', _, by simp; rfl, (hold.append hnew).mono (upS_mono hlt.next), fun z' hz2 => ?_⟩ (.inl rfl)
                        simp only [Option.some.injEq] at hz2
                        subst hz2
                        rw [size_zero, hzc]
                        exact Nat.le_refl _
                  · cases h
                · cases h
            · cases h
        · cases h
      · cases h
  · cases h
end
end Go.Vm

namespace Go.Vm
variable {P : Program}

section
variable {dst : Option Tmp} {type : TypeId} {pos : String} {after : Array Edge} {guard : Option (Nat × Bool)} {T : Frm} {H H' : Heap} {v : Value}

theorem s_copy {xo yo : Operand} {argTypes : Array TypeId} {u u2 : Value} (hx : evO T xo = some u) (hy : evO T yo = some u2) (h : copyV P H argTypes u u2 = some (v, H')) :
    OpS P ⟨dst, .call ⟨.builtin .copy, #[xo, yo], argTypes⟩, type, pos, after, guard⟩ T H v H' := by
  unfold copyV at h
  split at h
  · rename_i e hu0
    obtain ⟨t0, ht0, hu0⟩ := bind_und hu0
    split at h
    · rename_i size base n cd hs
      have hWr : ∀ b, Wrs T ⟨dst, .call ⟨.builtin .copy, #[xo, yo], argTypes⟩, type, pos, after, guard⟩ b ↔ b ∈ blkOf (.slice base n cd) := fun b => by
        simp [Wrs, fpOf, blkO, hx]
      have hTo : ∀ b, Touch T ⟨dst, .call ⟨.builtin .copy, #[xo, yo], argTypes⟩, type, pos, after, guard⟩ b ↔ (b ∈ blkOf u2 ∨ b ∈ blkOf (.slice base n cd)) := fun b => by
        simp [Touch, fpOf, blkO, hx, hy]
      intro σ a w hfr hlt hok
      have hrx := evO_sound hfr hx
      have hry := evO_sound hfr hy
      have hokW : ∀ b x j, Wrs T ⟨dst, .call ⟨.builtin .copy, #[xo, yo], argTypes⟩, type, pos, after, guard⟩ b → σ b = some x → H.get b = some j → BlkOK σ w x j :=
        fun b x j hb => hok b x j ((hTo b).2 (.inr ((hWr b).1 hb)))
      have hsz := fun w => sizeT_run hs w
      have exec : ∀ x y, a.eval xo = x → a.eval yo = y → ∀ r, (Builtin.copy_ argTypes type #[x, y]).run P w = r →
          (execOp a.eval ⟨dst, .call ⟨.builtin .copy, #[xo, yo], argTypes⟩, type, pos, after, guard⟩).run P w = r.andThen fun v w => .ok (.value v) w := by
        intro x y hx hy r hr
        subst hx
        subst hy
        simp [execOp, resolve, invoke, builtin, hr]
      split at h
      · cases h
      · rename_i hbn
        split at h
        · rename_i sa k c
          obtain ⟨b2, off2, r2, d2, s2, rfl, hσ2, ey⟩ := hry.slice_inv
          split at h
          · rename_i m new ad hsrc
            cases hp : putCells H ad (new.take (Nat.min k n * size)) with
            | none => simp [hp] at h
            | some H2 =>
              simp only [hp, Option.map_some, Option.some.injEq, Prod.mk.injEq] at h
              obtain ⟨rfl, rfl⟩ := h
              obtain ⟨b, off, r, d, s, rfl, hσ, ex⟩ := hrx.slice_inv
              obtain ⟨new', hnew, hlen, hfc⟩ := srcCells_sound (P := P) hsrc hry (fun b y j hb => hok b y j ((hTo b).2 (.inl hb)))
              have hm : m = k := by
                unfold srcCells at hsrc
                obtain ⟨cs, hc, he⟩ := Option.map_eq_some_iff.1 hsrc
                simp only [Prod.mk.injEq] at he
                exact he.1.symm
              subst hm
              have hf := (hfc w rfl).2 ⟨_, _, _, rfl⟩ (Nat.min m n) (Nat.min_le_left _ _)
              obtain ⟨w', hst, hL⟩ := putCells_sound (P := P) hp hσ hlt hokW ((hWr b).2 (by simp [blkOf])) (fun b' hb' => by simpa [blkOf] using (hWr b').1 hb') (hnew.take (Nat.min m n * size))
              refine ⟨.value (.int .i64 (Nat.min m n : Nat)), .int .i64 (Nat.min m n : Nat), w', σ, ?_, rfl, .plain rfl, hL⟩
              have hl := hlen w
              rw [exec _ _ ex rfl _ rfl]
              simp only at hst
              simp [Builtin.copy_, ht0, run_underlying hu0, hsz w, hl, hf, hst, goInt]
          · rename_i m hsrc
            simp only [Option.some.injEq, Prod.mk.injEq] at h
            obtain ⟨rfl, rfl⟩ := h
            have hn : n = 0 := by
              simp only [Option.isNone_none, Bool.true_and, Bool.not_eq_true'] at hbn
              simp [beq_dec] at hbn
              omega
            subst hn
            have ex := hrx.plain_eq rfl
            refine ⟨.value (.int .i64 0), .int .i64 0, w, σ, ?_, rfl, .plain rfl, .idl hlt hokW⟩
            rw [exec _ _ ex ey _ rfl]
            simp [Builtin.copy_, ht0, run_underlying hu0, hsz w, Builtin.lenOf, Builtin.firstCells, loadCells, loadCellsFrom, goInt]
          · cases h
        · simp only [Option.some.injEq, Prod.mk.injEq] at h
          obtain ⟨rfl, rfl⟩ := h
          have ey := hry.plain_eq rfl
          refine ⟨.value (.int .i64 0), .int .i64 0, w, σ, ?_, rfl, .plain rfl, .idl hlt hokW⟩
          cases base with
          | none =>
            rw [exec _ _ (hrx.plain_eq rfl) ey _ rfl]
            simp [Builtin.copy_, ht0, run_underlying hu0, hsz w, Builtin.lenOf, Builtin.firstCells, goInt]
          | some ad =>
            obtain ⟨b, off, r, d, s, rfl, hσ, ex⟩ := hrx.slice_inv
            rw [exec _ _ ex ey _ rfl]
            simp [Builtin.copy_, ht0, run_underlying hu0, hsz w, Builtin.lenOf, Builtin.firstCells, storeCells, goInt]
        · cases h
    · cases h
  · cases h

theorem s_len {xo : Operand} {argTypes : Array TypeId} {u : Value} (hx : evO T xo = some u) (h : keep H (lenV P H argTypes u) = some (v, H')) :
    OpS P ⟨dst, .call ⟨.builtin .len, #[xo], argTypes⟩, type, pos, after, guard⟩ T H v H' := by
  obtain ⟨hv, rfl⟩ := keep_some h
  refine .still (fun b h => by simp [Wrs, fpOf] at h) fun σ a w hfr hlt hok => ?_
  have hrx := evO_sound hfr hx
  have exec : ∀ x, a.eval xo = x → ∀ v', (Builtin.len_ argTypes type #[x]).run P w = .ok v' w →
      (execOp a.eval ⟨dst, .call ⟨.builtin .len, #[xo], argTypes⟩, type, pos, after, guard⟩).run P w = .ok (.value v') w := by
    intro x hx v' hr
    subst hx
    simp [execOp, resolve, invoke, builtin, hr]
  unfold lenV at hv
  split at hv <;> first | (cases hv; done) | skip
  · rename_i s hu
    obtain ⟨t, ht, hu⟩ := bind_und hu
    simp only [Option.some.injEq] at hv
    subst hv
    exact ⟨_, exec _ (hrx.plain_eq rfl) _ (by simp [Builtin.len_, ht, run_underlying hu, goInt]), .plain rfl⟩
  · rename_i n e hu
    obtain ⟨t, ht, hu⟩ := bind_und hu
    simp only [Option.some.injEq] at hv
    subst hv
    exact ⟨_, exec _ rfl _ (by simp [Builtin.len_, ht, run_underlying hu, goInt]), .plain rfl⟩
  · rename_i e base n c hu
    obtain ⟨t, ht, hu⟩ := bind_und hu
    simp only [Option.some.injEq] at hv
    subst hv
    cases base with
    | none => exact ⟨_, exec _ (hrx.plain_eq rfl) _ (by simp [Builtin.len_, ht, run_underlying hu, goInt]), .plain rfl⟩
    | some ad =>
      obtain ⟨b, off, r, d, s, rfl, hσ, ex⟩ := hrx.slice_inv
      exact ⟨_, exec _ ex _ (by simp [Builtin.len_, ht, run_underlying hu, goInt]), .plain rfl⟩
  · rename_i k e hu
    obtain ⟨t, ht, hu⟩ := bind_und hu
    simp only [Option.some.injEq] at hv
    subst hv
    exact ⟨_, exec _ (hrx.plain_eq rfl) _ (by simp [Builtin.len_, ht, run_underlying hu, goInt]), .plain rfl⟩
  · rename_i k e r hu
    obtain ⟨t, ht, hu⟩ := bind_und hu
    split at hv
    · rename_i es hg
      simp only [Option.some.injEq] at hv
      subst hv
      obtain ⟨r', s, hσ, ex⟩ := hrx.map_inv
      obtain ⟨_, es', clock, hh, hl, _⟩ := hok r _ _ (by simp [Touch, fpOf, blkO, hx, blkOf]) hσ hg
      simp only at hh
      exact ⟨_, exec _ ex _ (by simp [Builtin.len_, ht, run_underlying hu, goInt, getObj, Sem.run, hh, hl]), .plain rfl⟩
    · cases hv

theorem all_flat {σ : Sg} : ∀ {vs vs' : List Value}, LR σ vs vs' → vs.all flat = true → vs' = vs
  | [], vs', h, _ => by have := h.len; simp at this; exact List.eq_nil_of_length_eq_zero this.symm
  | v :: r, [], h, _ => by have := h.len; simp at this
  | v :: r, v' :: r', h, hp => by
    simp only [List.all_cons, Bool.and_eq_true] at hp
    rw [h.head.flat_eq hp.1, all_flat h.tail hp.2]

theorem s_max {args : Array Operand} {argTypes : Array TypeId} {vs : List Value} (hx : evL T args.toList = some vs) (hf : vs.all flat = true)
    (h : keep H (flatOnly (pureRun P (Builtin.max_ argTypes type vs.toArray))) = some (v, H')) :
    OpS P ⟨dst, .call ⟨.builtin .max, args, argTypes⟩, type, pos, after, guard⟩ T H v H' := by
  obtain ⟨hv, rfl⟩ := keep_some h
  obtain ⟨hv, hfv⟩ := flatOnly_some hv
  refine .still (fun b h => by simp [Wrs, fpOf] at h) fun σ a w hfr hlt hok => ?_
  have e := all_flat (evL_sound hfr hx) hf
  have e2 : args.map a.eval = vs.toArray := by apply Array.ext'; simpa using e
  have hr := pureRun_sound _ _ hv w
  exact ⟨v, by simp [execOp, resolve, invoke, builtin, e2, hr], VR.of_flat hfv⟩

theorem s_min {args : Array Operand} {argTypes : Array TypeId} {vs : List Value} (hx : evL T args.toList = some vs) (hf : vs.all flat = true)
    (h : keep H (flatOnly (pureRun P (Builtin.min_ argTypes type vs.toArray))) = some (v, H')) :
    OpS P ⟨dst, .call ⟨.builtin .min, args, argTypes⟩, type, pos, after, guard⟩ T H v H' := by
  obtain ⟨hv, rfl⟩ := keep_some h
  obtain ⟨hv, hfv⟩ := flatOnly_some hv
  refine .still (fun b h => by simp [Wrs, fpOf] at h) fun σ a w hfr hlt hok => ?_
  have e := all_flat (evL_sound hfr hx) hf
  have e2 : args.map a.eval = vs.toArray := by apply Array.ext'; simpa using e
  have hr := pureRun_sound _ _ hv w
  exact ⟨v, by simp [execOp, resolve, invoke, builtin, e2, hr], VR.of_flat hfv⟩

theorem s_conv {src dt : TypeId} {x : Operand} (h : oConv P src dt x T H = some (v, H')) : OpS P ⟨dst, .convert src dt x, type, pos, after, guard⟩ T H v H' := by
  unfold oConv at h
  split at h
  · rename_i u hx
    unfold convV at h
    split at h
    · rename_i s e hu
      split at h
      · rename_i ds hue hus
        rw [allocK_eq] at h
        simp only [Option.some.injEq, Prod.mk.injEq] at h
        obtain ⟨rfl, rfl⟩ := h
        intro σ a w hfr hlt hok
        have ex := (evO_sound hfr hx).plain_eq rfl
        have hW : ∀ b x' k, Wrs T ⟨dst, .convert src dt x, type, pos, after, guard⟩ b → σ b = some x' → H.get b = some k → BlkOK σ w x' k := fun b x' k hb =>
          hok b x' k (by simp only [Wrs, fpOf] at hb; simp only [Touch, fpOf]; exact .inr hb)
        have hge : s.size ≤ grownCap w s.size 0 e := grownCap_ge w s.size 0 e
        refine ⟨.value (.slice (some ⟨w.heap.size, 0 + 0, none⟩) s.size (s.size + (grownCap w s.size 0 e - s.size))), .slice (some ⟨w.heap.size, 0 + 0, none⟩) s.size (s.size + (grownCap w s.size 0 e - s.size)),
          { w.drew with heap := w.heap.push (.cells (s.data.map (fun b => Value.int .u8 b.toNat) ++ Array.replicate (grownCap w s.size 0 e - s.size) (.int .u8 0)) e (s.size + (grownCap w s.size 0 e - s.size), s.size + (grownCap w s.size 0 e - s.size) + 1)) },
          upS σ H.next (w.heap.size, 0, grownCap w s.size 0 e - s.size), ?_, rfl, .slice (upS_same _ _ _), ?_⟩
        · have hpm : ∀ (ar : Array Obj) (o : Obj) (f : Obj → Obj), (ar.push o).modify ar.size f = ar.push (f o) := by
            intro ar o f
            apply Array.ext
            · simp
            · intro i h1 h2
              simp only [Array.getElem_modify, Array.getElem_push]
              by_cases hi : i < ar.size
              · simp [hi]; intro he; omega
              · have : ar.size = i := by simp at h2; omega
                subst this
                simp
          rw [show s.size + (grownCap w s.size 0 e - s.size) = grownCap w s.size 0 e by omega]
          have hds : s.data.size = s.size := rfl
          simp [execOp, ex, convert, run_underlying hu, run_underlying hus, run_underlying hue, Conv.stringToBytes, Question.forced, newRow, markStringish, World.shape?, World.freeze, hpm, grownCap, World.drew, -World.alloc_eq, -World.drew_eq]
          have hge' : s.size ≤ (Question.appendCap s.size 0 e).cut (w.tape w.drawn (Question.appendCap s.size 0 e)) := hge
          rw [Nat.add_sub_of_le hge']
        · refine .newBlk hlt rfl rfl rfl rfl hW ?_
          refine .newCells (heap_push_new _ _) (by simp) ⟨bytesCells s, List.replicate (grownCap w s.size 0 e - s.size) (.int .u8 0), by simp [bytesCells], (lr_bytes s), fun z hz => ?_⟩ (.inr ?_)
          · simp only [Option.some.injEq] at hz; subst hz; simp
          · simp
      · cases h
    · rename_i ad n c e hu
      split at h
      · rename_i e2 cs lo hus hue hg
        split at h
        · rename_i hc
          obtain ⟨rfl, hfl⟩ := hc
          simp only [Option.some.injEq, Prod.mk.injEq] at h
          obtain ⟨rfl, rfl⟩ := h
          intro σ a w hfr hlt hok
          obtain ⟨b, off, r, d, s, rfl, hσ, ex⟩ := (evO_sound hfr hx).slice_inv
          have hT : ∀ b', Touch T ⟨dst, .convert src src x, type, pos, after, guard⟩ b' ↔ b' = b := fun b' => by simp [Touch, fpOf, blkO, hx, blkOf]
          have hW : ∀ b', Wrs T ⟨dst, .convert src src x, type, pos, after, guard⟩ b' ↔ b' = b := fun b' => by simp [Wrs, fpOf, blkO, hx, blkOf]
          have he2 : e2 = e := by rw [hu] at hus; simpa using hus.symm
          subst he2
          simp only at hg hfl
          obtain ⟨h0, c', t, fr, hh, hcl, hv, hf, hz⟩ := hok b _ _ ((hT b).2 rfl) hσ hg
          simp only at h0 hh hcl hv hz
          have hf := hf rfl
          have hrl : r < w.heap.size := (hlt b _ hσ).2
          have hhr : w.heap[r]'hrl = .cells c' t fr := (Array.getElem?_eq_some_iff.1 hh).2
          have hnew : (w.freeze ⟨r, c'.size, none⟩ 1).heap[r]? = some (.cells c' t (if fr.1 == fr.2 then (c'.size, c'.size + 1) else (min fr.1 c'.size, max fr.2 (c'.size + 1)))) := by
            simp only [World.freeze]
            rw [if_neg (by omega), Array.getElem?_eq_getElem (by simpa using hrl), Array.getElem_modify]
            simp [hhr]
          have hoth : ∀ r', r' ≠ r → (w.freeze ⟨r, c'.size, none⟩ 1).heap[r']? = w.heap[r']? := fun r' hr' => by
            simp only [World.freeze]
            rw [if_neg (by omega)]
            simp [Array.getElem?_modify, Ne.symm hr']
          have hsz : (w.freeze ⟨r, c'.size, none⟩ 1).heap.size = w.heap.size := by
            simp only [World.freeze]
            rw [if_neg (by omega)]
            simp
          have hos : (w.freeze ⟨r, c'.size, none⟩ 1).os = w.os ∧ (w.freeze ⟨r, c'.size, none⟩ 1).tape = w.tape ∧ (w.freeze ⟨r, c'.size, none⟩ 1).output = w.output := by
            simp only [World.freeze]
            rw [if_neg (by omega)]
            exact ⟨rfl, rfl, rfl⟩
          refine ⟨.value (.slice (some ⟨r, d + off, none⟩) n (c + s)), .slice (some ⟨r, d + off, none⟩) n (c + s), w.freeze ⟨r, c'.size, none⟩ 1, σ, ?_, rfl, .slice hσ, ?_⟩
          · simp [execOp, ex, convert, run_underlying hus, run_underlying hue, markStringish, World.shape?, hh]
          · exact {
              next := Nat.le_refl _
              next1 := Nat.le_succ _
              floor := rfl
              sub := fun _ _ => rfl
              lt := fun b' x' hx' => by have := hlt b' x' hx'; exact ⟨this.1, by omega⟩
              same := fun _ _ _ => rfl
              wr := fun _ _ _ => .inl rfl
              ok := fun b' x' k hb' hx' hk => by
                rcases hb' with hb' | hb'
                · have e := (hW b').1 hb'
                  subst e
                  rw [hσ] at hx'
                  simp only [Option.some.injEq] at hx'; subst hx'
                  rw [hg] at hk
                  simp only [Option.some.injEq] at hk; subst hk
                  refine ⟨h0, c', t, _, hnew, hcl, hv, fun _ => ?_, hz⟩
                  split
                  · exact .inr (Nat.le_refl _)
                  · rename_i hne
                    right
                    have : ¬ fr.1 = fr.2 := by simpa using hne
                    simp only
                    omega
                · have := (hlt b' x' hx').1; omega
              newr := fun b' x' hb' hx' => by have := (hlt b' x' hx').1; omega
              os := hos.1
              tape := hos.2.1
              output := hos.2.2
              size := by omega
              frame := fun r' hr' => by
                by_cases e : r' = r
                · subst e; exact .inr ⟨b, _, (hW b).2 rfl, hfl, by simp [WR, hg], hσ, rfl⟩
                · exact .inl (hoth r' e) }
        · cases h
      · cases h
    · split at h
      · rename_i hf
        obtain ⟨hv, rfl⟩ := keep_some h
        obtain ⟨hv, hfv⟩ := flatOnly_some hv
        intro σ a w hfr hlt hok
        have e := (evO_sound hfr hx).flat_eq hf
        have hr := pureRun_sound _ _ hv w
        refine ⟨.value v, v, w, σ, by simp [execOp, e, hr], rfl, VR.of_flat hfv, .idl hlt (fun b x' k hb => ?_)⟩
        exact hok b x' k (by simp only [Wrs, fpOf] at hb; simp only [Touch, fpOf]; exact .inr hb)
      · cases h
  · cases h
end
end Go.Vm

