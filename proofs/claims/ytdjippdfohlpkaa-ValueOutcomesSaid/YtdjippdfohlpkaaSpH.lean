/- isa.Encode in plain Lean. -/
import Derived.Test.YtdjippdfohlpkaaSpG
namespace Go.Vm

def bitsI (k : IntKind) (f : BitVec k.bits → BitVec k.bits → BitVec k.bits) (x y : Int) : Int := k.wrap (f (BitVec.ofInt k.bits x) (BitVec.ofInt k.bits y)).toNat
def shlI (k : IntKind) (x : Int) (n : Nat) : Int := k.wrap (x * 2 ^ min n k.bits)
def u32 (x : Int) : Int := IntKind.u32.wrap x
def orU (x y : Int) : Int := bitsI .u32 (· ||| ·) x y
def andU (x y : Int) : Int := bitsI .u32 (· &&& ·) x y
/-- The encoding of an instruction: fields 'a', 'b', 'c', 'i' as its row names them. -/
def encF (i : Ins) (w : Int) : Nat → Int
  | 0 => orU w (shlI .u32 (u32 i.a) 22)
  | 1 => orU w (shlI .u32 (u32 i.b) 18)
  | 2 => orU w (shlI .u32 (u32 i.c) 14)
  | _ => orU w (shlI .u32 (andU (u32 i.imm) 262143) 0)
def encL (i : Ins) : List Nat → Int → Int
  | [], w => w
  | c :: r, w => encL i r (encF i w c)
def fmtL : List (List Nat) := [[], [], [0, 1, 2], [0, 1, 2], [0, 1, 2], [0, 1, 2], [0, 1, 2], [0, 1, 2], [0, 1, 2], [0, 1, 2], [0, 1, 2], [0, 1, 2], [0, 1, 2], [0, 1, 2],
  [0, 3], [0, 1, 3], [0, 1, 3], [0, 1, 3], [0, 1, 3], [0, 1, 3], [0, 1, 3], [0, 1, 3], [0, 3], [0, 3], [3], [0, 3], [0, 3], [0, 3], [3], [3]]
def encW (l : List Nat) (i : Ins) : Int := encL i l (shlI .u32 (u32 i.op) 26)
def Ins.enc (i : Ins) : Int × Int := onB (!i.valid) (0, 3) (encW ((nth fmtL i.op.toNat).getD []) i, 0)
def rsE : Rs (Int × Int) := Rs.pair (tInt .u32) (tInt .i64)
def encT (i : Ins) : Tr (Int × Int) := .node i.byte (.leaf i.enc) .fail
end Go.Vm
