/- Proved: ontimelaw28.ValueOutcomes returns true for every input and leaves its arguments as they were. There are no conditions. -/
import Derived.Test.YtdjippdfohlpkaaRows
import Derived.Test.YtdjippdfohlpkaaCl
import Derived.Test.YtdjippdfohlpkaaVmY
import Derived.WalkKit
import Derived.ProofKit
import Derived.OpenShut
namespace Go.Proofs.Ytdjippdfohlpkaa
open Go Go.Vm Go.ChangeShapes Go.WideShapes Go.ChangeAt Go.RowKit
set_option maxRecDepth 100000

theorem own : ownKnob Try.prog.godebug = none := by kernel_rfl
theorem laidOut : laidOutB Try.prog = true := by kernel_rfl
theorem cells21 : Try.prog.cellsOf 21 = 1 := by kernel_rfl

theorem min32 : IntKind.i32.min = -2147483648 := rfl
theorem max32 : IntKind.i32.max = 2147483647 := rfl
/-- An instruction among the arguments. -/
theorem arg_ins {W : World} {base : Nat} {v : Value} (h : Value.okWide Try.prog W .any base 23 v) : ∃ i : Ins, v = tIns.enc i := by
  obtain ⟨cs, rfl, h1, h2⟩ := okWide_agg (ts := [5, 3, 3, 3, 3]) (by kernel_rfl) (by kernel_rfl) (by kernel_rfl) h
  have hs : cs.size = 5 := h1
  have g : ∀ (j : Nat) (hj : j < 5), cs[j]? = some (cs[j]'(by omega)) := fun j hj => Array.getElem?_eq_getElem (by omega)
  obtain ⟨n0, e0, _⟩ := cell_int (k := .u8) (by kernel_rfl) (h2 0 5 _ rfl (g 0 (by omega)))
  obtain ⟨n1, e1, _⟩ := cell_int (k := .i64) (by kernel_rfl) (h2 1 3 _ rfl (g 1 (by omega)))
  obtain ⟨n2, e2, _⟩ := cell_int (k := .i64) (by kernel_rfl) (h2 2 3 _ rfl (g 2 (by omega)))
  obtain ⟨n3, e3, _⟩ := cell_int (k := .i64) (by kernel_rfl) (h2 3 3 _ rfl (g 3 (by omega)))
  obtain ⟨n4, e4, _⟩ := cell_int (k := .i64) (by kernel_rfl) (h2 4 3 _ rfl (g 4 (by omega)))
  refine ⟨⟨n0, n1, n2, n3, n4⟩, ?_⟩
  show Value.agg cs = .agg #[.int .u8 n0, .int .i64 n1, .int .i64 n2, .int .i64 n3, .int .i64 n4]
  congr 1
  apply Array.ext
  · exact hs
  · intro j hj hj'
    match j, hj with
    | 0, _ => exact e0
    | 1, _ => exact e1
    | 2, _ => exact e2
    | 3, _ => exact e3
    | 4, _ => exact e4
    | j + 5, hj => omega
/-- Registers among the arguments. -/
theorem arg_regs {W : World} {base : Nat} {v : Value} (h : Value.okWide Try.prog W .any base 27 v) : ∃ r : Rg, v = tR.enc r ∧ r.Rng := by
  obtain ⟨f, rfl, h1⟩ := okWide_uni (n := 32) (u := 21) (k := .i32) (by kernel_rfl) (by kernel_rfl) (by kernel_rfl) (by kernel_rfl) h
  refine ⟨f, rfl, fun j hj => ?_⟩
  have := h1 j hj
  rw [min32, max32] at this
  omega

theorem lr3 {σ : Sg} {i : Ins} {r : Rg} {s s' : Value} (h : VR σ s s') : LR σ [tIns.enc i, tR.enc r, s] (#[tIns.enc i, tR.enc r, s'] : Array Value).toList :=
  .cons (VR.of_flat (tIns.fl i)) (.cons (VR.of_flat (tR.fl r)) (.cons h .nil))

theorem outcomes_lifted (os : Os) (started : os.Started) (H : Type) (enc : TypeId × Value → H) :
    ReturnsInHanded {} Try.checked os 3 .any (Rows.valueOutcomesSpec.pre6 enc Try.prog Try.f3 Rows.valueOutcomesRow.domain false) (Rows.valueOutcomesSpec.post enc Try.prog Try.f3 false true false false) := by
  refine returnsInHanded_of_change (C := Try.checked) own started (by kernel_rfl) Try.func3
    (ChangeSpec.witness6 (enc := enc) (C := Try.checked) false ⟨#[], #[tIns.enc ⟨0, 0, 0, 0, 0⟩, tR.enc Rg.zero, .slice none 0 0], []⟩ 8 (by kernel_rfl) (by kernel_rfl) (by kernel_rfl) (by kernel_rfl)) ?_
  intro W base args ds gs before hval0 hW hcnd _
  have hval : ∀ (j : Nat) t v, Try.f3.params[j]? = some t → args[j]? = some v → Value.okWide Try.prog W .any base t v := hval0
  have hW' := hW
  obtain ⟨p, q, hA0, hV, rfl, hfz, hnd⟩ := hW
  have hA : DataW.TrodAll enc Try.prog W 0 (fun _ => true) true Try.f3.params.toList args.toList ds p := hA0
  rw [Try.params3] at hA hval
  obtain ⟨v0, v1, v2, d0, d1, d2, p0, p1, p2, rfl, rfl, rfl, h0, h1, h2⟩ := trodAll_three hA
  obtain ⟨rfl, rfl⟩ := trodVars_none hV
  obtain ⟨i, rfl⟩ := arg_ins (hval 0 23 v0 rfl rfl)
  obtain ⟨r, rfl, hr⟩ := arg_regs (hval 1 27 v1 rfl rfl)
  have hv2 := hval 2 28 v2 rfl rfl
  obtain ⟨a0, len, cap, rfl⟩ := okWide_slice Try.underlying28 hv2
  clear hA0 hval0
  simp only [List.append_nil] at hW'
  have hlt : ∀ x ∈ p0 ++ p1 ++ p2, x.block < W.heap.size := fun x hx => hW'.lt x hx
  have fin : Calls Try.prog 3 #[tIns.enc i, tR.enc r, .slice a0 len cap] W (fun e W' => e = .returned (.bool true) ∧ Below W.heap.size W W') →
      Calls Try.prog 3 #[tIns.enc i, tR.enc r, .slice a0 len cap] W fun e W' => ∃ v, e = .returned v ∧ Rows.valueOutcomesSpec.post enc Try.prog Try.f3 false true false false W #[tIns.enc i, tR.enc r, .slice a0 len cap] v W' := by
    intro h
    refine h.mono fun e W' ⟨he, hb⟩ => ⟨_, he, ?_⟩
    have t0 := Below.trod laidOut (by kernel_rfl) (of_decide_eq_true (by kernel_rfl)) h0 hb (fun x hx => hlt x (by simp [hx]))
    have t1 := Below.trod laidOut (by kernel_rfl) (of_decide_eq_true (by kernel_rfl)) h1 hb (fun x hx => hlt x (by simp [hx]))
    have t2 := Below.trod laidOut (by kernel_rfl) (of_decide_eq_true (by kernel_rfl)) h2 hb (fun x hx => hlt x (by simp [hx]))
    exact ⟨_, _, _, [], _, [], hW', trodAll_mk1 (shut_bool Try.underlying4 true), trodAll_mk3 t0 t1 t2, rfl, hb.frame _, fun h => by cases h⟩
  apply fin
  obtain ⟨fuel, hf⟩ := h2
  rcases open_ints Try.underlying28 Try.underlying21 cells21 hf with ⟨hcs, _⟩ | ⟨a, len', cap', zs, hcs, _, hl, hm, hz, _, hcell, hwz⟩
  · simp [Value.cells] at hcs
    obtain ⟨rfl, rfl, rfl⟩ := hcs
    exact run_calls okay TO_ok (run0 i r hr) rfl (Nat.le_refl _) (lr3 (.plain rfl)) (st0 W)
  · simp [Value.cells] at hcs
    obtain ⟨rfl, rfl, rfl⟩ := hcs
    simp only [if_true] at hz
    have hok : W.has Try.prog .any base a 21 cap := by
      simp only [Value.okWide, Try.underlying28, Cell.okWide, Cell.ok] at hv2
      exact hv2.2.2
    obtain ⟨_, hspot, row, cells, hsh, _⟩ := hok
    obtain ⟨b, off, spot⟩ := a
    simp only at hspot hsh
    subst hspot
    obtain ⟨c, t, fr, hh⟩ : ∃ c t fr, W.heap[b]? = some (.cells c t fr) := by
      unfold World.shape? at hsh
      split at hsh
      · rename_i c t fr he; exact ⟨c, t, fr, he⟩
      · cases hsh
    by_cases hn : len = 0
    · subst hn
      refine run_calls okay TO_ok (run2 i r hr off cap) rfl (Nat.le_refl _) (lr3 (σ := sg1 b 0) ?_) (st_one (l := []) hh (Nat.zero_le _) rfl fun i v h => by simp at h)
      have : VR (sg1 b 0) (.slice (some ⟨0, off, none⟩) 0 cap) (.slice (some ⟨b, 0 + off, none⟩) 0 (cap + 0)) := .slice rfl
      simpa using this
    · have hget : ∀ j, j < zs.length → c[off + j]? = some (.int .i32 (zs.getD j 0)) := fun j hj => by
        have := hcell j hj
        rw [show Addr.add ⟨b, off, none⟩ j = ⟨b, off + j, none⟩ from by by_cases h : j = 0 <;> simp [Addr.add, h]] at this
        simpa [World.cell?, hh] using this
      have hlen : off + min len 16 ≤ c.size := by
        have := (Array.getElem?_eq_some_iff.1 (hget (min len 16 - 1) (by omega))).1
        omega
      have hxs : (zs.take (min len 16)).length = min len 16 := by simp; omega
      refine run_calls okay TO_ok (run1 i r hr len cap (zs.take (min len 16)) hxs) rfl (Nat.le_refl _) (lr3 (σ := sg1 b off) ?_) (st_one (l := (zs.take (min len 16)).map (Value.int .i32)) hh (by rw [List.length_map, hxs]; exact hlen) ?_ fun j v hj => ?_)
      · have : VR (sg1 b off) (.slice (some ⟨0, 0, none⟩) len cap) (.slice (some ⟨b, off + 0, none⟩) len (cap + 0)) := .slice rfl
        simpa using this
      · rw [List.all_eq_true]
        intro v hv
        obtain ⟨n, _, rfl⟩ := List.mem_map.1 hv
        rfl
      · rw [List.getElem?_map] at hj
        have hj' : j < min len 16 := by
          apply Classical.byContradiction
          intro h
          rw [List.getElem?_eq_none (by omega)] at hj
          cases hj
        rw [List.getElem?_take_of_lt hj', List.getElem?_eq_getElem (by omega)] at hj
        simp only [Option.map_some, Option.some.injEq] at hj
        rw [hget j (by omega), ← hj]
        simp [List.getD, List.getElem?_eq_getElem (show j < zs.length by omega)]

theorem valueOutcomes : Rows.ValueOutcomesSaid :=
  OpenClaim.holds_of_wide 3 Try.f3 rfl rfl rfl rfl rfl rfl rfl ⟨rfl, rfl, rfl, rfl, rfl⟩ rfl rfl rfl rfl rfl (by kernel_rfl) Try.func3 (by kernel_rfl)
    (of_decide_eq_true (by kernel_rfl)) (by unfold Func.isWrapper; first | (rw [if_pos (by decide +kernel)]; kernel_rfl) | (rw [if_neg (by decide +kernel)]; exact ⟨rfl, rfl⟩))
    (fun os started H enc _ => outcomes_lifted os started H enc)
#print axioms valueOutcomes
end Go.Proofs.Ytdjippdfohlpkaa
