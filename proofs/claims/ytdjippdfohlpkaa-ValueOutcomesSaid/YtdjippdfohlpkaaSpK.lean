/- law28's concrete and inside in plain Lean. -/
import Derived.Test.YtdjippdfohlpkaaSpJ
namespace Go.Vm

def conj : List Bool → Bool
  | [] => true
  | b :: r => b && conj r
theorem conj_iff : ∀ {l : List Bool}, conj l = true ↔ ∀ b ∈ l, b = true
  | [] => by simp [conj]
  | b :: r => by simp [conj, conj_iff (l := r)]
/-- What the offset is taken modulo. -/
def spanI (r : Rg) (k : Nat) : Int := IntKind.i64.wrap (IntKind.i64.wrap (IntKind.i64.wrap (r (2 * k + 1)) - IntKind.i64.wrap (r (2 * k))) + 1)
def pickI (r : Rg) (k : Nat) (x : Int) : Int := IntKind.i32.wrap (IntKind.i64.wrap (IntKind.i64.wrap (r (2 * k)) + (IntKind.i64.wrap (IntKind.u32.wrap x)).tmod (spanI r k)))
def lowI (r : Rg) (k : Nat) : Int := IntKind.i32.wrap (IntKind.i64.wrap (r (2 * k)))
/-- A job's register: the first registers have offsets. -/
def valI (r : Rg) (xs : List Int) (k : Nat) : Int := match nth xs k with
  | some x => pickI r k x
  | none => lowI r k
def spans (r : Rg) : Nat → Nat → List Bool → List Bool
  | _, 0, z => z
  | k, n + 1, z => (!decide (spanI r k = 0)) :: spans r (k + 1) n z
/-- A state's registers at a symbolic place. -/
def stCells (d : Value) (V : Nat → Int) : List Value := .int .i64 0 :: (cellsI .i32 V 0 16 ++ [d, .bool false, .int .i64 (-1)])
def stSel (d : Value) (V : Nat → Int) (a : Int) : Int := selInt (stCells d V) (0 + 1 + a.toNat * 1)
def accS (a : Int) (z : List Bool) : List Bool := decide (0 ≤ a) :: decide (a < 16) :: (Nat.ble 1 (0 + 1 + a.toNat * 1) && Nat.ble (0 + 1 + a.toNat * 1 + 1) (1 + 16)) :: z
def insC (V : Nat → Int) (x : Rg) : Nat → Nat → List Bool
  | _, 0 => []
  | k, n + 1 => (!decide (V k < x (2 * k))) :: (!decide (V k > x (2 * k + 1))) :: insC V x (k + 1) n
/-- The registers as they come out of a value. -/
def Rg.dec (r : Rg) : Rg := selInt (cellsI .i32 r 0 32)
theorem Rg.dec_eq (r : Rg) {j : Nat} (h : j < 32) : r.dec j = r j := sel_cells h
/-- Is there an offset? (only where the slice's length is not known) -/
def spansL (r : Rg) (len : Nat) : Nat → Nat → List Bool → List Bool
  | _, 0, z => z
  | k, n + 1, z => decide ((k : Int) < (len : Int)) :: decide ((k : Int) < (len : Int)) :: (!decide (spanI r k = 0)) :: spansL r len (k + 1) n z
/-- What Refine is asked, and what comes of it. -/
def tkO (d : Value) (i : Ins) (r : Rg) (xs : List Int) : Bool := (stSel d (valI r xs) i.a == 0) == (i.op == 22)
def refO (d : Value) (i : Ins) (r : Rg) (xs : List Int) : Rg × Bool := r.dec.refine i (tkO d i r xs)
def endO (d : Value) (i : Ins) (r : Rg) (xs : List Int) : List Bool := accS i.a [(refO d i r xs).2]
def outC (d : Value) (i : Ins) (r : Rg) (xs : List Int) (n : Nat) : List Bool := (!r.bad) :: (!(!i.valid)) :: spans r 0 n (endO d i r xs)
def outL (d : Value) (i : Ins) (r : Rg) (xs : List Int) (len : Nat) : List Bool := (!r.bad) :: (!(!i.valid)) :: spansL r len 0 16 (endO d i r xs)
def dO (b : Nat) : Value := .slice (some ⟨b, 0, none⟩) 8 8
def bitsK (n : Nat) : Nat → Nat → List Nat
  | _, 0 => [1, 3, 3, 4, 2, 4, 1, 3]
  | k, m + 1 => 1 :: (match Nat.ble n k with
    | true => 8
    | false => 14) :: bitsK n (k + 1) m
def bitsH (n : Nat) : List Nat := (match n with
  | 0 => 7
  | _ => 13) :: bitsK n 1 15
end Go.Vm
namespace Go.Vm
/-- Bits by the lengths of their rows. -/
def rl : Bool → List Nat → List Bool
  | _, [] => []
  | b, n :: r => List.replicate n b ++ rl (!b) r
/-- A heap with one slice's cells. -/
def H1 (l : List Value) : Heap := ⟨(PT.leaf : PT Blk).set 0 (some (.cells l none true)), 1, 1⟩
def bits22 (n : Nat) : List Bool := rl true ([0, 1, 1, 12, 1, 3, 1, 1] ++ bitsH n)
def bits23 (n : Nat) : List Bool := rl true ([0, 1, 1, 5, 2, 1, 1, 4, 1, 3, 1, 1] ++ bitsH n)
end Go.Vm
