/- Proved: ontimelaw28.ValueMonotone returns true for every input and leaves its arguments as they were. There are no conditions. -/
import Derived.Test.YtdjippdfohlpkaaRw
import Derived.Test.YtdjippdfohlpkaaMp
namespace Go.Proofs.Ytdjippdfohlpkaa
open Go Go.Vm Go.ChangeShapes Go.WideShapes Go.ChangeAt Go.RowKit
set_option maxRecDepth 100000

theorem lr4 {σ : Sg} (i : Ins) (r m : Rg) (t : Bool) : LR σ [tIns.enc i, tR.enc r, tR.enc m, .bool t] (#[tIns.enc i, tR.enc r, tR.enc m, .bool t] : Array Value).toList :=
  .cons (VR.of_flat (tIns.fl i)) (.cons (VR.of_flat (tR.fl r)) (.cons (VR.of_flat (tR.fl m)) (.cons (.plain rfl) .nil)))

theorem monotone_lifted (os : Os) (started : os.Started) (H : Type) (enc : TypeId × Value → H) :
    ReturnsInHanded {} Try.checked os 6 .any (Rows.valueMonotoneSpec.pre6 enc Try.prog Try.f6 Rows.valueMonotoneRow.domain false) (Rows.valueMonotoneSpec.post enc Try.prog Try.f6 false true false false) := by
  refine returnsInHanded_of_change (C := Try.checked) own started (by kernel_rfl) Try.func6
    (ChangeSpec.witness6 (enc := enc) (C := Try.checked) false ⟨#[], #[tIns.enc ⟨0, 0, 0, 0, 0⟩, tR.enc Rg.zero, tR.enc Rg.zero, .bool false], []⟩ 8 (by kernel_rfl) (by kernel_rfl) (by kernel_rfl) (by kernel_rfl)) ?_
  intro W base args ds gs before hval0 hW hcnd _
  have hval : ∀ (j : Nat) t v, Try.f6.params[j]? = some t → args[j]? = some v → Value.okWide Try.prog W .any base t v := hval0
  have hW' := hW
  obtain ⟨p, q, hA0, hV, rfl, hfz, hnd⟩ := hW
  have hA : DataW.TrodAll enc Try.prog W 0 (fun _ => true) true Try.f6.params.toList args.toList ds p := hA0
  rw [Try.params6] at hA hval
  obtain ⟨v0, v1, v2, v3, d0, d1, d2, d3, p0, p1, p2, p3, rfl, rfl, rfl, h0, h1, h2, h3⟩ := trodAll_four hA
  obtain ⟨rfl, rfl⟩ := trodVars_none hV
  obtain ⟨i, rfl, hb⟩ := arg_ins (hval 0 23 v0 rfl rfl)
  obtain ⟨r, rfl, hr⟩ := arg_regs (hval 1 27 v1 rfl rfl)
  obtain ⟨m, rfl, hm⟩ := arg_regs (hval 2 27 v2 rfl rfl)
  obtain ⟨t, rfl⟩ := okWide_bool Try.underlying4 (hval 3 4 v3 rfl rfl)
  clear hA0 hval0
  simp only [List.append_nil] at hW'
  have hlt : ∀ x ∈ p0 ++ p1 ++ p2 ++ p3, x.block < W.heap.size := fun x hx => hW'.lt x hx
  refine (run_calls okay TM_ok (mono_run i hb r m hr hm t) rfl (Nat.le_refl _) (lr4 i r m t) (st0 W)).mono fun e W' ⟨he, hbl⟩ => ⟨_, he, ?_⟩
  have t0 := Below.trod laidOut (by kernel_rfl) (of_decide_eq_true (by kernel_rfl)) h0 hbl (fun x hx => hlt x (by simp [hx]))
  have t1 := Below.trod laidOut (by kernel_rfl) (of_decide_eq_true (by kernel_rfl)) h1 hbl (fun x hx => hlt x (by simp [hx]))
  have t2 := Below.trod laidOut (by kernel_rfl) (of_decide_eq_true (by kernel_rfl)) h2 hbl (fun x hx => hlt x (by simp [hx]))
  have t3 := Below.trod laidOut (by kernel_rfl) (of_decide_eq_true (by kernel_rfl)) h3 hbl (fun x hx => hlt x (by simp [hx]))
  exact ⟨_, _, _, [], _, [], hW', trodAll_mk1 (shut_bool Try.underlying4 true), trodAll_mk4 t0 t1 t2 t3, rfl, hbl.frame _, fun h => by cases h⟩

theorem valueMonotone : Rows.ValueMonotoneSaid :=
  OpenClaim.holds_of_wide 6 Try.f6 rfl rfl rfl rfl rfl rfl rfl ⟨rfl, rfl, rfl, rfl, rfl⟩ rfl rfl rfl rfl rfl (by kernel_rfl) Try.func6 (by kernel_rfl)
    (of_decide_eq_true (by kernel_rfl)) (by unfold Func.isWrapper; first | (rw [if_pos (by decide +kernel)]; kernel_rfl) | (rw [if_neg (by decide +kernel)]; exact ⟨rfl, rfl⟩))
    (fun os started H enc _ => monotone_lifted os started H enc)
#print axioms valueMonotone
end Go.Proofs.Ytdjippdfohlpkaa
