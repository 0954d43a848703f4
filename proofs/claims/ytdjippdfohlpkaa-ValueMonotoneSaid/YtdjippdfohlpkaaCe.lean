/- Contracts of value.nonzero and value.Refine. -/
import Derived.Test.YtdjippdfohlpkaaP0
import Derived.Test.YtdjippdfohlpkaaCd
namespace Go.Proofs.Ytdjippdfohlpkaa
open Go Go.Vm
set_option maxRecDepth 100000

theorem c_nonzero : C 39 (fn1 tI tI.rs fun x => .leaf x.nz) := fn1_t okay T3_ok fun x => ⟨20, by
  have h : runS Try.prog T3 20 39 [tI.enc x] = onB (x.lo == 0 && (x.hi == 0 && true)) (some (tI.rs.enc I.none)) (onB (x.lo == 0) (some (tI.rs.enc ⟨1, x.hi⟩)) (onB (x.hi == 0) (some (tI.rs.enc ⟨x.lo, -1⟩)) (some (tI.rs.enc x)))) := by kernel_rfl
  rw [h]; unfold I.nz
  cases (x.lo == 0 && (x.hi == 0 && true)) <;> cases (x.lo == 0) <;> cases (x.hi == 0) <;> rfl⟩
noncomputable def T4 : Tab := (36, fn2 tIns tR tBool.rs goodT) :: (39, fn1 tI tI.rs fun x => .leaf x.nz) :: T3
theorem T4_ok : TOK T4 := tab_cons c_good (tab_cons c_nonzero T3_ok)
theorem r_Refine (i : Ins) (r : Rg) (t : Bool) : runS Try.prog T4 20 13 [tIns.enc i, tR.enc r, .bool t] = refV (fun x => some (Rs.two.enc x)) none i r t := by kernel_rfl
theorem c_Refine : C 13 (fn3 tIns tR tBool Rs.two refineT) := fn3_ok okay T4_ok fun i r t x hx => ⟨20, by
  unfold refineT at hx
  rw [eval_node] at hx
  by_cases hb : i.byte = true
  · rw [if_pos hb] at hx
    cases hx
    show runS Try.prog T4 20 13 [tIns.enc i, tR.enc r, .bool t] = _
    rw [r_Refine, refV_eq _ _ _ _ _ hb]
  · rw [if_neg hb] at hx; cases hx⟩
end Go.Proofs.Ytdjippdfohlpkaa
