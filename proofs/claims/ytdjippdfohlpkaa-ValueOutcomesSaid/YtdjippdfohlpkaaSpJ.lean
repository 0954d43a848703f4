/- value.join, isa.IsBranch, isa.Target, value.word in plain Lean. -/
import Derived.Test.YtdjippdfohlpkaaSpI
namespace Go.Vm

def Rg.join (a b : Rg) : Rg := fun j => match Nat.beq (j % 2) 0 with
  | true => ((I.mk (a j) (a (j + 1))).join ⟨b j, b (j + 1)⟩).lo
  | false => ((I.mk (a (j - 1)) (a j)).join ⟨b (j - 1), b j⟩).hi
def isBr (op : Int) : Bool := onB (decide (op ≥ 22)) (decide (op ≤ 24)) false
def rsT : Rs (Int × Bool) := Rs.pair (tInt .i64) tBool
def target (i : Ins) (pc : Int) : Int × Bool := onB (isBr i.op) (IntKind.i64.wrap (IntKind.i64.wrap (pc + 1) + i.imm), true) (0, false)
end Go.Vm
