/- What the interval package computes, in plain Lean. -/
import Derived.Test.YtdjippdfohlpkaaVmV
namespace Go.Vm

structure I where
  lo : Int
  hi : Int
  deriving DecidableEq

def tI : Ty I := tU .i32 2 (fun x i => match i with | 0 => x.lo | _ => x.hi) (fun f => ⟨f 0, f 1⟩) (fun f i h => by
  match i, h with
  | 0, _ => rfl
  | 1, _ => rfl)

namespace I
def full : I := ⟨-2147483648, 2147483647⟩
def none : I := ⟨1, 0⟩
def of (n : Int) : I := ⟨n, n⟩
def emp (x : I) : Bool := decide (x.lo > x.hi)
def has (x : I) (n : Int) : Bool := decide (n ≥ x.lo) && decide (n ≤ x.hi)
def join (x y : I) : I :=
  match x.emp, y.emp with
  | true, true => none
  | true, false => y
  | false, true => x
  | false, false => ⟨if y.lo < x.lo then y.lo else x.lo, if y.hi > x.hi then y.hi else x.hi⟩
def meet0 (x y : I) : I := ⟨if y.lo > x.lo then y.lo else x.lo, if y.hi < x.hi then y.hi else x.hi⟩
def meet (x y : I) : I :=
  match x.emp || y.emp || (meet0 x y).emp with
  | true => none
  | false => meet0 x y
def within (x y : I) : Bool := x.emp || (!y.emp && decide (y.lo ≤ x.lo) && decide (x.hi ≤ y.hi))
def widen (x y : I) : I :=
  match x.emp || y.emp with
  | true => join x y
  | false => ⟨if y.lo < x.lo then -2147483648 else x.lo, if y.hi > x.hi then 2147483647 else x.hi⟩
end I
end Go.Vm
