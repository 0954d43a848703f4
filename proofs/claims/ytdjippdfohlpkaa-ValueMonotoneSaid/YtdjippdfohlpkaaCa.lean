/- Contracts of the interval package's small functions. -/
import Derived.Test.YtdjippdfohlpkaaP0
import Derived.Test.YtdjippdfohlpkaaProg
import Derived.KernelRfl
namespace Go.Proofs.Ytdjippdfohlpkaa
open Go Go.Vm
set_option maxRecDepth 100000

theorem okay : Okay Try.prog := .of (by kernel_rfl) (by kernel_rfl)
abbrev C (f : Nat) (c : CE) : Prop := EntOK Try.prog f (CE.ent c)
abbrev TOK (t : Tab) : Prop := TabOK Try.prog t

theorem c_Full : C 51 (fn0 tI.rs I.full) := fn0_ok okay tab_nil ⟨20, by kernel_rfl⟩
theorem c_Empty : C 52 (fn0 tI.rs I.none) := fn0_ok okay tab_nil ⟨20, by kernel_rfl⟩
theorem c_Of : C 38 (fn1 (tInt .i32) tI.rs fun n => .leaf (I.of n)) := fn1_t okay tab_nil fun a => ⟨20, by kernel_rfl⟩
theorem c_IsEmpty : C 40 (fn1 tI tBool.rs fun x => .leaf x.emp) := fn1_t okay tab_nil fun a => ⟨20, by kernel_rfl⟩
theorem c_Contains : C 21 (fn2 tI (tInt .i32) tBool.rs fun x n => .leaf (x.has n)) := fn2_t okay tab_nil fun x n => ⟨20, by
  have h : runS Try.prog [] 20 21 [tI.enc x, (tInt .i32).enc n] = onB (decide (n ≥ x.lo)) (some (.bool (decide (n ≤ x.hi)))) (some (.bool false)) := by kernel_rfl
  rw [h]; unfold I.has
  cases decide (n ≥ x.lo) <;> rfl⟩

def T1 : Tab := [(51, fn0 tI.rs I.full), (52, fn0 tI.rs I.none), (38, fn1 (tInt .i32) tI.rs fun n => .leaf (I.of n)),
  (40, fn1 tI tBool.rs fun x => .leaf x.emp), (21, fn2 tI (tInt .i32) tBool.rs fun x n => .leaf (x.has n))]
theorem T1_ok : TOK T1 := tab_cons c_Full (tab_cons c_Empty (tab_cons c_Of (tab_cons c_IsEmpty (tab_cons c_Contains tab_nil))))

theorem c_Join : C 24 (fn2 tI tI tI.rs fun x y => .leaf (x.join y)) := fn2_t okay T1_ok fun x y => ⟨20, by
  have h : runS Try.prog T1 20 24 [tI.enc x, tI.enc y] =
    onB x.emp (onB y.emp (some (tI.rs.enc I.none)) (onB x.emp (some (tI.rs.enc y)) (onB y.emp (some (tI.rs.enc x)) (some (tI.rs.enc ⟨if y.lo < x.lo then y.lo else x.lo, if y.hi > x.hi then y.hi else x.hi⟩)))))
     (onB x.emp (some (tI.rs.enc y)) (onB y.emp (some (tI.rs.enc x)) (some (tI.rs.enc ⟨if y.lo < x.lo then y.lo else x.lo, if y.hi > x.hi then y.hi else x.hi⟩)))) := by kernel_rfl
  rw [h]; unfold I.join
  cases x.emp <;> cases y.emp <;> rfl⟩
theorem c_Meet : C 37 (fn2 tI tI tI.rs fun x y => .leaf (x.meet y)) := fn2_t okay T1_ok fun x y => ⟨20, by
  have h : runS Try.prog T1 20 37 [tI.enc x, tI.enc y] =
    onB x.emp (some (tI.rs.enc I.none)) (onB y.emp (some (tI.rs.enc I.none)) (onB (I.meet0 x y).emp (some (tI.rs.enc I.none)) (some (tI.rs.enc (I.meet0 x y))))) := by kernel_rfl
  rw [h]; unfold I.meet
  cases x.emp <;> cases y.emp <;> cases (I.meet0 x y).emp <;> rfl⟩
def T2 : Tab := (24, fn2 tI tI tI.rs fun x y => .leaf (x.join y)) :: (37, fn2 tI tI tI.rs fun x y => .leaf (x.meet y)) :: T1
theorem T2_ok : TOK T2 := tab_cons c_Join (tab_cons c_Meet T1_ok)

theorem c_Widen : C 67 (fn2 tI tI tI.rs fun x y => .leaf (x.widen y)) := fn2_t okay T2_ok fun x y => ⟨20, by
  have h : runS Try.prog T2 20 67 [tI.enc x, tI.enc y] =
    onB x.emp (some (tI.rs.enc (x.join y))) (onB y.emp (some (tI.rs.enc (x.join y))) (onB (decide (y.lo < x.lo))
      (onB (decide (y.hi > x.hi)) (some (tI.rs.enc ⟨-2147483648, 2147483647⟩)) (some (tI.rs.enc ⟨-2147483648, x.hi⟩)))
      (onB (decide (y.hi > x.hi)) (some (tI.rs.enc ⟨x.lo, 2147483647⟩)) (some (tI.rs.enc ⟨x.lo, x.hi⟩))))) := by kernel_rfl
  rw [h]; unfold I.widen
  cases x.emp <;> cases y.emp <;> simp only [onB, Bool.or_true, Bool.or_false]
  by_cases h1 : y.lo < x.lo <;> by_cases h2 : y.hi > x.hi <;> simp [h1, h2]⟩
end Go.Proofs.Ytdjippdfohlpkaa
