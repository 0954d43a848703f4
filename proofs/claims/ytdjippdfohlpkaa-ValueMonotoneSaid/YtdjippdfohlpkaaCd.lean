/- The contract of value.good. -/
import Derived.Test.YtdjippdfohlpkaaP0
import Derived.Test.YtdjippdfohlpkaaCc
namespace Go.Proofs.Ytdjippdfohlpkaa
open Go Go.Vm
set_option maxRecDepth 100000

noncomputable def T3 : Tab := (11, fn1 tIns tBool.rs validT) :: (67, fn2 tI tI tI.rs fun x y => .leaf (x.widen y)) :: T2
theorem T3_ok : TOK T3 := tab_cons c_Valid (tab_cons c_Widen T2_ok)

theorem c_good : C 36 (fn2 tIns tR tBool.rs goodT) := fn2_ok okay T3_ok fun i r x hx => ⟨20, by
  have h : runS Try.prog T3 20 36 [tIns.enc i, tR.enc r] = goodV i r (some (.bool false)) (onB i.byte (some (.bool i.valid)) none) := by kernel_rfl
  unfold goodT at hx
  rw [eval_node] at hx
  by_cases hb : i.byte = true
  · rw [if_pos hb] at hx
    cases hx
    rw [h, hb]
    unfold Rg.good goodV
    simp only [onB]
    cases decide (r 0 > r 1)
    · cases no0 r
      · exact scan_bool ..
      · rfl
    · rfl
  · rw [if_neg hb] at hx; cases hx⟩
end Go.Proofs.Ytdjippdfohlpkaa
