/- What the rows of law28 have in common. -/
import Derived.Test.YtdjippdfohlpkaaRows
import Derived.Test.YtdjippdfohlpkaaCd
import Derived.Test.YtdjippdfohlpkaaP2
import Derived.Test.YtdjippdfohlpkaaW4
import Derived.WalkKit
import Derived.ProofKit
import Derived.OpenShut
namespace Go.Proofs.Ytdjippdfohlpkaa
open Go Go.Vm Go.ChangeShapes Go.WideShapes Go.ChangeAt Go.RowKit
set_option maxRecDepth 100000

theorem own : ownKnob Try.prog.godebug = none := by kernel_rfl
theorem laidOut : laidOutB Try.prog = true := by kernel_rfl
theorem min32 : IntKind.i32.min = -2147483648 := rfl
theorem max32 : IntKind.i32.max = 2147483647 := rfl
/-- An instruction among the arguments. -/
theorem arg_ins {W : World} {base : Nat} {v : Value} (h : Value.okWide Try.prog W .any base 23 v) : ∃ i : Ins, v = tIns.enc i ∧ i.byte = true := by
  obtain ⟨cs, rfl, h1, h2⟩ := okWide_agg (ts := [5, 3, 3, 3, 3]) (by kernel_rfl) (by kernel_rfl) (by kernel_rfl) h
  have hs : cs.size = 5 := h1
  have g : ∀ (j : Nat) (hj : j < 5), cs[j]? = some (cs[j]'(by omega)) := fun j hj => Array.getElem?_eq_getElem (by omega)
  obtain ⟨n0, e0, l0, u0⟩ := cell_int (k := .u8) (by kernel_rfl) (h2 0 5 _ rfl (g 0 (by omega)))
  obtain ⟨n1, e1, _⟩ := cell_int (k := .i64) (by kernel_rfl) (h2 1 3 _ rfl (g 1 (by omega)))
  obtain ⟨n2, e2, _⟩ := cell_int (k := .i64) (by kernel_rfl) (h2 2 3 _ rfl (g 2 (by omega)))
  obtain ⟨n3, e3, _⟩ := cell_int (k := .i64) (by kernel_rfl) (h2 3 3 _ rfl (g 3 (by omega)))
  obtain ⟨n4, e4, _⟩ := cell_int (k := .i64) (by kernel_rfl) (h2 4 3 _ rfl (g 4 (by omega)))
  have hb : Ins.byte ⟨n0, n1, n2, n3, n4⟩ = true := by
    have a : IntKind.u8.min = 0 := rfl
    have b : IntKind.u8.max = 255 := rfl
    simp only [Ins.byte, Bool.and_eq_true, decide_eq_true_eq]
    omega
  refine ⟨⟨n0, n1, n2, n3, n4⟩, ?_, hb⟩
  show Value.agg cs = .agg #[.int .u8 n0, .int .i64 n1, .int .i64 n2, .int .i64 n3, .int .i64 n4]
  congr 1
  apply Array.ext
  · exact hs
  · intro j hj hj'
    match j, hj with
    | 0, _ => exact e0
    | 1, _ => exact e1
    | 2, _ => exact e2
    | 3, _ => exact e3
    | 4, _ => exact e4
    | j + 5, hj => omega
/-- Registers among the arguments. -/
theorem arg_regs {W : World} {base : Nat} {v : Value} (h : Value.okWide Try.prog W .any base 27 v) : ∃ r : Rg, v = tR.enc r ∧ r.Rng := by
  obtain ⟨f, rfl, h1⟩ := okWide_uni (n := 32) (u := 21) (k := .i32) (by kernel_rfl) (by kernel_rfl) (by kernel_rfl) (by kernel_rfl) h
  refine ⟨f, rfl, fun j hj => ?_⟩
  have := h1 j hj
  rw [min32, max32] at this
  omega

end Go.Proofs.Ytdjippdfohlpkaa
