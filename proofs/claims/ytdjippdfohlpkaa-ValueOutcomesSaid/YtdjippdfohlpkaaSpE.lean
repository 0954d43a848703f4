/- isa.Valid in plain Lean. -/
import Derived.Test.YtdjippdfohlpkaaSpD
namespace Go.Vm

def limB (a b c i ha hb hc lo hi : Int) : Bool :=
  onB (decide (a < 0)) false (onB (decide (a > ha)) false (onB (decide (b < 0)) false (onB (decide (b > hb)) false
  (onB (decide (c < 0)) false (onB (decide (c > hc)) false (onB (decide (i < lo)) false (onB (decide (i > hi)) false true)))))))
def limV (a b c i ha hb hc lo hi : Int) : Option Value :=
  onB (decide (a < 0)) (some (.bool false)) (onB (decide (a > ha)) (some (.bool false)) (onB (decide (b < 0)) (some (.bool false)) (onB (decide (b > hb)) (some (.bool false))
  (onB (decide (c < 0)) (some (.bool false)) (onB (decide (c > hc)) (some (.bool false)) (onB (decide (i < lo)) (some (.bool false)) (onB (decide (i > hi)) (some (.bool false)) (some (.bool true)))))))))
theorem onB_bool (b : Bool) (x y : Bool) : onB b (some (Value.bool x)) (some (.bool y)) = some (.bool (onB b x y)) := by cases b <;> rfl
theorem limV_eq (a b c i ha hb hc lo hi : Int) : limV a b c i ha hb hc lo hi = some (.bool (limB a b c i ha hb hc lo hi)) := by
  unfold limV limB
  simp only [onB_bool]
theorem limB_iff {a b c i ha hb hc lo hi : Int} : limB a b c i ha hb hc lo hi = true ↔ 0 ≤ a ∧ a ≤ ha ∧ 0 ≤ b ∧ b ≤ hb ∧ 0 ≤ c ∧ c ≤ hc ∧ lo ≤ i ∧ i ≤ hi := by
  unfold limB onB
  constructor
  · intro h
    repeat (split at h; · cases h)
    simp only [decide_eq_false_iff_not] at *
    omega
  · intro h
    simp only [show decide (a < 0) = false by simp; omega, show decide (a > ha) = false by simp; omega, show decide (b < 0) = false by simp; omega, show decide (b > hb) = false by simp; omega,
      show decide (c < 0) = false by simp; omega, show decide (c > hc) = false by simp; omega, show decide (i < lo) = false by simp; omega, show decide (i > hi) = false by simp; omega]

abbrev Lim := Int × Int × Int × Int × Int
def limOf (l : Lim) (i : Ins) : Bool := limB i.a i.b i.c i.imm l.1 l.2.1 l.2.2.1 l.2.2.2.1 l.2.2.2.2
def Ins.valid (i : Ins) : Bool := match nth limsL i.op.toNat with
  | some l => limOf l i
  | none => false
def Ins.byte (i : Ins) : Bool := decide (0 ≤ i.op) && decide (i.op < 256)
def validT (i : Ins) : Tr Bool := .node i.byte (.leaf i.valid) .fail
end Go.Vm
