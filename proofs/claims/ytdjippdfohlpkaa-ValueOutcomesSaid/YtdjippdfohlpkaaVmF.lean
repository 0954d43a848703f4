/- A verified interpreter: its operations are the machine's (fourth part: slices, what is built). -/
import Derived.Test.YtdjippdfohlpkaaVmE
namespace Go.Vm
variable {P : Program}

theorem boundV_sound {v : Option Value} {d y n : Nat} (h : boundV v d y = some n) : v = none ∧ n = d ∨ ∃ k i, v = some (.int k i) ∧ 0 ≤ i ∧ i ≤ y ∧ n = i.toNat := by
  unfold boundV at h
  split at h
  · simp only [Option.some.injEq] at h; exact .inl ⟨rfl, h.symm⟩
  · split at h
    · rename_i k i hi
      simp only [Option.some.injEq] at h
      exact .inr ⟨k, i, rfl, hi.1, hi.2, h.symm⟩
    · cases h
  · cases h

theorem sliceBound_run (k : IntKind) (i : Int) (y : Nat) (code : BoundsCode) (h0 : 0 ≤ i) (h1 : i ≤ y) (w : World) : (Instr.sliceBound (.int k i) y code).run P w = .ok i.toNat w := by
  simp [Instr.sliceBound, asIntOf, h0, h1]

/-- The bounds of a slice expression, its capacity perhaps greater. -/
theorem sliceBounds_run {isSlice : Bool} {len cap s : Nat} {lo hi : Option Value} {l h : Nat} (hh : boundV hi len cap = some h) (hl : boundV lo 0 h = some l) (w : World) :
    (Instr.sliceBounds isSlice len (cap + s) lo hi none).run P w = .ok (l, h, cap + s) w := by
  rcases boundV_sound hh with ⟨rfl, rfl⟩ | ⟨kh, ih, rfl, hh0, hh1, rfl⟩ <;> rcases boundV_sound hl with ⟨rfl, rfl⟩ | ⟨kl, il, rfl, hl0, hl1, rfl⟩
  · simp [Instr.sliceBounds]
  · simp [Instr.sliceBounds, sliceBound_run kl il _ _ hl0 hl1]
  · simp [Instr.sliceBounds, sliceBound_run kh ih (cap + s) _ hh0 (by omega)]
  · simp [Instr.sliceBounds, sliceBound_run kh ih (cap + s) _ hh0 (by omega), sliceBound_run kl il _ _ hl0 hl1]

theorem evM_sound {σ : Sg} {T : Frm} {a : Act} (h : FR σ T a.tmps) {x : Option Operand} {v : Option Value} (hx : evM T x = some v) :
    (v = none ∧ x = none) ∨ ∃ (y : Operand) (u : Value), x = some y ∧ v = some u ∧ VR σ u (a.eval y) := by
  unfold evM at hx
  split at hx
  · simp only [Option.some.injEq] at hx; exact .inl ⟨hx.symm, rfl⟩
  · split at hx
    · rename_i y _ u hu
      simp only [Option.some.injEq] at hx
      exact .inr ⟨y, u, rfl, hx.symm, evO_sound h hu⟩
    · cases hx

theorem boundV_map {σ : Sg} {T : Frm} {a : Act} (h : FR σ T a.tmps) {x : Option Operand} {v : Option Value} (hx : evM T x = some v) {d y n : Nat} (hb : boundV v d y = some n) :
    x.map a.eval = v := by
  rcases evM_sound h hx with ⟨rfl, rfl⟩ | ⟨o, u, rfl, rfl, hr⟩
  · rfl
  · rcases boundV_sound hb with ⟨h1, _⟩ | ⟨k, i, h1, _⟩
    · cases h1
    · simp only [Option.some.injEq] at h1
      subst h1
      simp [hr.int_inv]

section
variable {dst : Option Tmp} {type : TypeId} {pos : String} {after : Array Edge} {guard : Option (Nat × Bool)} {T : Frm} {H H' : Heap} {v : Value}

theorem exAt_slack {σ : Sg} {w : World} {b r d s : Nat} (h : exAt H b = true) (hok : ∀ k, H.get b = some k → BlkOK σ w (r, d, s) k) : s = 0 := by
  unfold exAt at h
  split at h
  · rename_i cs ro hg
    exact (hok _ hg).1 rfl
  · cases h

theorem s_slice {t : TypeId} {x : Operand} {lo hi mx : Option Operand} (h : oSlice P t x lo hi mx T H = some (v, H')) : OpS P ⟨dst, .slice t x lo hi mx, type, pos, after, guard⟩ T H v H' := by
  unfold oSlice at h
  split at h
  · rename_i u ul uh um hx hl hh hm
    obtain ⟨hv, rfl⟩ := keep_some h
    refine .still (fun b h => by simp [Wrs, fpOf] at h) fun σ a w hfr hlt hok => ?_
    have hrx := evO_sound hfr hx
    have hmx : um = none → mx = none := by
      intro e; subst e
      rcases evM_sound hfr hm with ⟨_, h⟩ | ⟨_, _, _, h, _⟩
      · exact h
      · cases h
    unfold sliceV at hv
    split at hv
    · rename_i s hu
      have := hmx rfl; subst this
      split at hv
      · rename_i h' hb
        cases hbl : boundV ul 0 h' with
        | none => simp [hbl] at hv
        | some l =>
          simp only [hbl, Option.map_some, Option.some.injEq] at hv
          subst hv
          have hsb := sliceBounds_run (P := P) (isSlice := false) (s := 0) hb hbl w
          have ex := hrx.plain_eq rfl
          refine ⟨_, ?_, .plain rfl⟩
          simp only [Nat.add_zero] at hsb
          simp [execOp, ex, Instr.sliceAt, run_underlying hu, Instr.slice, boundV_map hfr hl hbl, boundV_map hfr hh hb, hsb]
      · cases hv
    · rename_i e b off len cap hu
      have := hmx rfl; subst this
      split at hv
      · rename_i s h' hs hb
        split at hv
        · rename_i l hbl
          obtain ⟨b', off', r, d, sl, heq, hσ, ex⟩ := hrx.slice_inv
          simp only [Addr.mk.injEq] at heq
          obtain ⟨rfl, rfl, -⟩ := heq
          have hsb := sliceBounds_run (P := P) (isSlice := true) (s := sl) hb hbl w
          have hrun : (Instr.slice t (.slice (some ⟨r, d + off, none⟩) len (cap + sl)) (lo.map a.eval) (hi.map a.eval) none).run P w =
              .ok (.slice (if cap + sl = l then some ⟨r, d + off, none⟩ else some ⟨r, d + off + l * s, none⟩) (h' - l) (cap + sl - l)) w := by
            simp only [boundV_map hfr hl hbl, boundV_map hfr hh hb]
            simp [Instr.slice, run_underlying hu, hsb, sizeT_run hs w, add_none]
          split at hv
          · rename_i h0
            subst h0
            simp only [Option.some.injEq] at hv
            subst hv
            refine ⟨.slice (some ⟨r, d + off, none⟩) h' (cap + sl), ?_, .slice hσ⟩
            simp [execOp, ex, Instr.sliceAt, run_underlying hu, hrun]
          · rename_i h0
            split at hv
            · rename_i hc
              simp only [Option.some.injEq] at hv
              subst hv
              simp only [Bool.or_eq_true, Bool.and_eq_true, decide_eq_true_eq] at hc
              have hsl : cap = l → sl = 0 := fun e => by
                rcases hc with ⟨h1, _⟩ | h1
                · exact exAt_slack h1 (fun k hk => hok b _ k (by simp [Touch, fpOf, blkO, hx, blkOf]) hσ hk)
                · omega
              have hle : l ≤ cap := by omega
              by_cases e : cap = l
              · have := hsl e
                subst this
                subst e
                refine ⟨.slice (some ⟨r, d + off, none⟩) (h' - cap) (cap - cap + 0), ?_, by rw [if_pos rfl]; exact .slice hσ⟩
                simp only [Nat.add_zero, if_true] at hrun
                simp [execOp, ex, Instr.sliceAt, run_underlying hu, hrun]
              · have e2 : ¬ cap + sl = l := by omega
                refine ⟨.slice (some ⟨r, d + (off + l * s), none⟩) (h' - l) (cap - l + sl), ?_, by rw [if_neg e]; exact .slice hσ⟩
                simp [execOp, ex, Instr.sliceAt, run_underlying hu, hrun, e2]
                omega
            · cases hv
        · cases hv
      · cases hv
    · rename_i e hu
      have := hmx rfl; subst this
      split at hv
      · rename_i sz h' l hs hb hbl
        simp only [Option.some.injEq] at hv
        subst hv
        have ex := hrx.plain_eq rfl
        have h0 : h' = 0 := by rcases boundV_sound hb with ⟨_, h1⟩ | ⟨_, _, _, h1, h2, h3⟩ <;> omega
        subst h0
        have l0 : l = 0 := by rcases boundV_sound hbl with ⟨_, h1⟩ | ⟨_, _, _, h1, h2, h3⟩ <;> omega
        subst l0
        have hsb := sliceBounds_run (P := P) (isSlice := true) (s := 0) hb hbl w
        simp only [Nat.add_zero] at hsb
        refine ⟨.slice none 0 0, ?_, .plain rfl⟩
        simp only [execOp, ex, Instr.sliceAt, boundV_map hfr hl hbl, boundV_map hfr hh hb]
        simp [run_underlying hu, Instr.slice, hsb, sizeT_run hs w]
      · cases hv
    · rename_i n e b off hu
      have := hmx rfl; subst this
      split at hv
      · rename_i s h' hs hb
        split at hv
        · rename_i l hbl
          obtain ⟨b', off', r, d, sl, heq, hσ, ex⟩ := hrx.ptr_inv
          simp only [Addr.mk.injEq] at heq
          obtain ⟨rfl, rfl, -⟩ := heq
          split at hv
          · rename_i hex
            simp only [Option.some.injEq] at hv
            subst hv
            have h0 := exAt_slack hex (fun k hk => hok b _ k (by simp [Touch, fpOf, blkO, hx, blkOf]) hσ hk)
            subst h0
            have hsb := sliceBounds_run (P := P) (isSlice := false) (s := 0) hb hbl w
            simp only [Nat.add_zero] at hsb
            refine ⟨.slice (some (if n = l then ⟨r, d + off, none⟩ else ⟨r, d + off + l * s, none⟩)) (h' - l) (n - l), ?_, ?_⟩
            · simp only [execOp, ex, Instr.sliceAt, boundV_map hfr hl hbl, boundV_map hfr hh hb]
              simp [run_underlying hu, hsb, sizeT_run hs w, add_none, Instr.sureAddr]
            · by_cases e : n = l
              · rw [if_pos e, if_pos e]; exact .slice (s := 0) hσ
              · rw [if_neg e, if_neg e, Nat.add_assoc]; exact .slice (s := 0) hσ
          · cases hv
        · cases hv
      · cases hv
    · cases hv
  · cases h
end
end Go.Vm
