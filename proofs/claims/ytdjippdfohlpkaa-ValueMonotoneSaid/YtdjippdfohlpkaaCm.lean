/- The contract of interval.Within. -/
import Derived.Test.YtdjippdfohlpkaaCa
namespace Go.Proofs.Ytdjippdfohlpkaa
open Go Go.Vm
set_option maxRecDepth 100000

theorem c_Within : C 23 (fn2 tI tI tBool.rs fun x y => .leaf (x.within y)) := fn2_t okay T1_ok fun x y => ⟨20, by
  have h : runS Try.prog T1 20 23 [tI.enc x, tI.enc y] =
    onB x.emp (some (.bool true)) (onB (!y.emp) (onB (decide (y.lo ≤ x.lo)) (some (.bool (decide (x.hi ≤ y.hi)))) (some (.bool false))) (some (.bool false))) := by kernel_rfl
  rw [h]; unfold I.within
  cases x.emp <;> cases y.emp <;> cases decide (y.lo ≤ x.lo) <;> rfl⟩

end Go.Proofs.Ytdjippdfohlpkaa
