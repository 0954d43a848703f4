/- What the interval package computes, in plain Lean. What isa.Valid computes, in plain Lean. The rows of the instruction set. isa.find by branches. isa.Valid in plain Lean. Registers: 32 cells. value.Refine in plain Lean. -/
import Derived.Test.YtdjippdfohlpkaaW4
namespace Go.Vm

structure I where
  lo : Int
  hi : Int
  deriving DecidableEq

def tI : Ty I := tU .i32 2 (fun x i => match i with | 0 => x.lo | _ => x.hi) (fun f => ⟨f 0, f 1⟩) (fun f i h => by
  match i, h with
  | 0, _ => rfl
  | 1, _ => rfl)

namespace I
def full : I := ⟨-2147483648, 2147483647⟩
def none : I := ⟨1, 0⟩
def of (n : Int) : I := ⟨n, n⟩
def emp (x : I) : Bool := decide (x.lo > x.hi)
def has (x : I) (n : Int) : Bool := decide (n ≥ x.lo) && decide (n ≤ x.hi)
def join (x y : I) : I :=
  match x.emp, y.emp with
  | true, true => none
  | true, false => y
  | false, true => x
  | false, false => ⟨if y.lo < x.lo then y.lo else x.lo, if y.hi > x.hi then y.hi else x.hi⟩
def meet0 (x y : I) : I := ⟨if y.lo > x.lo then y.lo else x.lo, if y.hi < x.hi then y.hi else x.hi⟩
def meet (x y : I) : I :=
  match x.emp || y.emp || (meet0 x y).emp with
  | true => none
  | false => meet0 x y
def within (x y : I) : Bool := x.emp || (!y.emp && decide (y.lo ≤ x.lo) && decide (x.hi ≤ y.hi))
def widen (x y : I) : I :=
  match x.emp || y.emp with
  | true => join x y
  | false => ⟨if y.lo < x.lo then -2147483648 else x.lo, if y.hi > x.hi then 2147483647 else x.hi⟩
end I
end Go.Vm

namespace Go.Vm

structure Ins where
  op : Int
  a : Int
  b : Int
  c : Int
  imm : Int
  deriving DecidableEq

def tIns : Ty Ins where
  enc i := .agg #[.int .u8 i.op, .int .i64 i.a, .int .i64 i.b, .int .i64 i.c, .int .i64 i.imm]
  dec
    | .agg ⟨.int .u8 op :: r⟩ => (match allK .i64 r && Nat.beq r.length 4 with
        | true => some ⟨op, selInt r 0, selInt r 1, selInt r 2, selInt r 3⟩
        | false => none)
    | _ => none
  inv {v a} h := by
    split at h
    · rename_i op r
      split at h
      · rename_i hb
        simp only [Bool.and_eq_true] at hb
        obtain ⟨hk, hl⟩ := hb
        have hl := Nat.eq_of_beq_eq_true hl
        cases h
        have key : r = [.int .i64 (selInt r 0), .int .i64 (selInt r 1), .int .i64 (selInt r 2), .int .i64 (selInt r 3)] := by
          have := ints_eq (k := .i64) (allK_spec hk) 4 0 (by omega)
          simpa [ints, List.take_of_length_le (Nat.le_of_eq hl)] using this
        congr 1
        apply Array.toList_inj.1
        show Value.int .u8 op :: r = _
        rw [key]
        rfl
      · cases h
    · cases h
  fl _ := rfl
end Go.Vm

namespace Go.Vm

def rowsV : List Value := [
  .agg #[.string ⟨#[110, 111, 112]⟩, .string ⟨#[]⟩, .int .i64 (0), .int .i64 (0), .string ⟨#[]⟩, .string ⟨#[]⟩],
  .agg #[.string ⟨#[104, 97, 108, 116]⟩, .string ⟨#[]⟩, .int .i64 (0), .int .i64 (0), .string ⟨#[]⟩, .string ⟨#[]⟩],
  .agg #[.string ⟨#[97, 100, 100]⟩, .string ⟨#[97, 98, 99]⟩, .int .i64 (0), .int .i64 (0), .string ⟨#[98, 99]⟩, .string ⟨#[97]⟩],
  .agg #[.string ⟨#[115, 117, 98]⟩, .string ⟨#[97, 98, 99]⟩, .int .i64 (0), .int .i64 (0), .string ⟨#[98, 99]⟩, .string ⟨#[97]⟩],
  .agg #[.string ⟨#[109, 117, 108]⟩, .string ⟨#[97, 98, 99]⟩, .int .i64 (0), .int .i64 (0), .string ⟨#[98, 99]⟩, .string ⟨#[97]⟩],
  .agg #[.string ⟨#[100, 105, 118]⟩, .string ⟨#[97, 98, 99]⟩, .int .i64 (0), .int .i64 (0), .string ⟨#[98, 99]⟩, .string ⟨#[97]⟩],
  .agg #[.string ⟨#[109, 111, 100]⟩, .string ⟨#[97, 98, 99]⟩, .int .i64 (0), .int .i64 (0), .string ⟨#[98, 99]⟩, .string ⟨#[97]⟩],
  .agg #[.string ⟨#[97, 110, 100]⟩, .string ⟨#[97, 98, 99]⟩, .int .i64 (0), .int .i64 (0), .string ⟨#[98, 99]⟩, .string ⟨#[97]⟩],
  .agg #[.string ⟨#[111, 114]⟩, .string ⟨#[97, 98, 99]⟩, .int .i64 (0), .int .i64 (0), .string ⟨#[98, 99]⟩, .string ⟨#[97]⟩],
  .agg #[.string ⟨#[120, 111, 114]⟩, .string ⟨#[97, 98, 99]⟩, .int .i64 (0), .int .i64 (0), .string ⟨#[98, 99]⟩, .string ⟨#[97]⟩],
  .agg #[.string ⟨#[115, 104, 108]⟩, .string ⟨#[97, 98, 99]⟩, .int .i64 (0), .int .i64 (0), .string ⟨#[98, 99]⟩, .string ⟨#[97]⟩],
  .agg #[.string ⟨#[115, 104, 114]⟩, .string ⟨#[97, 98, 99]⟩, .int .i64 (0), .int .i64 (0), .string ⟨#[98, 99]⟩, .string ⟨#[97]⟩],
  .agg #[.string ⟨#[101, 113]⟩, .string ⟨#[97, 98, 99]⟩, .int .i64 (0), .int .i64 (0), .string ⟨#[98, 99]⟩, .string ⟨#[97]⟩],
  .agg #[.string ⟨#[108, 116]⟩, .string ⟨#[97, 98, 99]⟩, .int .i64 (0), .int .i64 (0), .string ⟨#[98, 99]⟩, .string ⟨#[97]⟩],
  .agg #[.string ⟨#[108, 105]⟩, .string ⟨#[97, 105]⟩, .int .i64 (-131072), .int .i64 (131071), .string ⟨#[]⟩, .string ⟨#[97]⟩],
  .agg #[.string ⟨#[97, 100, 100, 105]⟩, .string ⟨#[97, 98, 105]⟩, .int .i64 (-131072), .int .i64 (131071), .string ⟨#[98]⟩, .string ⟨#[97]⟩],
  .agg #[.string ⟨#[115, 104, 108, 105]⟩, .string ⟨#[97, 98, 105]⟩, .int .i64 (0), .int .i64 (31), .string ⟨#[98]⟩, .string ⟨#[97]⟩],
  .agg #[.string ⟨#[111, 114, 105]⟩, .string ⟨#[97, 98, 105]⟩, .int .i64 (0), .int .i64 (16383), .string ⟨#[98]⟩, .string ⟨#[97]⟩],
  .agg #[.string ⟨#[108, 100]⟩, .string ⟨#[97, 98, 105]⟩, .int .i64 (-131072), .int .i64 (131071), .string ⟨#[98]⟩, .string ⟨#[97]⟩],
  .agg #[.string ⟨#[115, 116]⟩, .string ⟨#[97, 98, 105]⟩, .int .i64 (-131072), .int .i64 (131071), .string ⟨#[97, 98]⟩, .string ⟨#[]⟩],
  .agg #[.string ⟨#[108, 100, 115]⟩, .string ⟨#[97, 98, 105]⟩, .int .i64 (-131072), .int .i64 (131071), .string ⟨#[98]⟩, .string ⟨#[97]⟩],
  .agg #[.string ⟨#[115, 116, 115]⟩, .string ⟨#[97, 98, 105]⟩, .int .i64 (-131072), .int .i64 (131071), .string ⟨#[97, 98]⟩, .string ⟨#[]⟩],
  .agg #[.string ⟨#[98, 101, 113, 122]⟩, .string ⟨#[97, 105]⟩, .int .i64 (-131072), .int .i64 (131071), .string ⟨#[97]⟩, .string ⟨#[]⟩],
  .agg #[.string ⟨#[98, 110, 101, 122]⟩, .string ⟨#[97, 105]⟩, .int .i64 (-131072), .int .i64 (131071), .string ⟨#[97]⟩, .string ⟨#[]⟩],
  .agg #[.string ⟨#[106, 109, 112]⟩, .string ⟨#[105]⟩, .int .i64 (-131072), .int .i64 (131071), .string ⟨#[]⟩, .string ⟨#[]⟩],
  .agg #[.string ⟨#[98, 111, 117, 110, 100]⟩, .string ⟨#[97, 105]⟩, .int .i64 (1), .int .i64 (131071), .string ⟨#[97]⟩, .string ⟨#[]⟩],
  .agg #[.string ⟨#[105, 110]⟩, .string ⟨#[97, 105]⟩, .int .i64 (0), .int .i64 (7), .string ⟨#[]⟩, .string ⟨#[97]⟩],
  .agg #[.string ⟨#[111, 117, 116]⟩, .string ⟨#[97, 105]⟩, .int .i64 (0), .int .i64 (7), .string ⟨#[97]⟩, .string ⟨#[]⟩],
  .agg #[.string ⟨#[108, 111, 99, 107]⟩, .string ⟨#[105]⟩, .int .i64 (0), .int .i64 (3), .string ⟨#[]⟩, .string ⟨#[]⟩],
  .agg #[.string ⟨#[117, 110, 108, 111, 99, 107]⟩, .string ⟨#[105]⟩, .int .i64 (0), .int .i64 (3), .string ⟨#[]⟩, .string ⟨#[]⟩]]
def rowZ : Value := .agg #[.string ⟨#[]⟩, .string ⟨#[]⟩, .int .i64 0, .int .i64 0, .string ⟨#[]⟩, .string ⟨#[]⟩]
/-- The limits of the operands a, b, c and the immediate one. -/
def limsL : List (Int × Int × Int × Int × Int) := [
  (0, 0, 0, 0, 0),
  (0, 0, 0, 0, 0),
  (15, 15, 15, 0, 0),
  (15, 15, 15, 0, 0),
  (15, 15, 15, 0, 0),
  (15, 15, 15, 0, 0),
  (15, 15, 15, 0, 0),
  (15, 15, 15, 0, 0),
  (15, 15, 15, 0, 0),
  (15, 15, 15, 0, 0),
  (15, 15, 15, 0, 0),
  (15, 15, 15, 0, 0),
  (15, 15, 15, 0, 0),
  (15, 15, 15, 0, 0),
  (15, 0, 0, -131072, 131071),
  (15, 15, 0, -131072, 131071),
  (15, 15, 0, 0, 31),
  (15, 15, 0, 0, 16383),
  (15, 15, 0, -131072, 131071),
  (15, 15, 0, -131072, 131071),
  (15, 15, 0, -131072, 131071),
  (15, 15, 0, -131072, 131071),
  (15, 0, 0, -131072, 131071),
  (15, 0, 0, -131072, 131071),
  (0, 0, 0, -131072, 131071),
  (15, 0, 0, 1, 131071),
  (15, 0, 0, 0, 7),
  (15, 0, 0, 0, 7),
  (0, 0, 0, 0, 3),
  (0, 0, 0, 0, 3)]
end Go.Vm

namespace Go.Vm

abbrev FV := { v : Value // flat2 v = true }
def rsV : Rs FV := ⟨Subtype.val, Subtype.property⟩

def pickR (op : Int) : Nat → (l : List Value) → l.all flat = true → Tr FV → Tr FV
  | _, [], _, z => z
  | n, v :: r, h, z => .node (decide (op = (n : Int))) (.leaf ⟨.tuple #[v, .bool true], by
      simp only [List.all_cons, Bool.and_eq_true] at h
      show [v, .bool true].all flat = true
      simp only [List.all_cons, h.1, List.all_nil, Bool.and_true, Bool.true_and]
      rfl⟩) (pickR op (n + 1) r (by
      simp only [List.all_cons, Bool.and_eq_true] at h
      exact h.2) z)
def findT (op : Int) : Tr FV := pickR op 0 rowsV (by decide) (.node (decide (30 ≤ op) && decide (op < 256)) (.leaf ⟨.tuple #[rowZ, .bool false], by decide⟩) .fail)
end Go.Vm
namespace Go.Vm
theorem pickR_inv {op : Int} {z : Tr FV} {x : FV} : ∀ (l : List Value) (n : Nat) (h : l.all flat = true), (pickR op n l h z).eval = some x →
    (∃ i v, l[i]? = some v ∧ op = ((n + i : Nat) : Int) ∧ x.val = .tuple #[v, .bool true]) ∨ ((∀ i, i < l.length → op ≠ ((n + i : Nat) : Int)) ∧ z.eval = some x)
  | [], n, h, hx => .inr ⟨fun i hi => by simp at hi, hx⟩
  | v :: r, n, h, hx => by
    simp only [pickR, eval_node] at hx
    by_cases hn : op = (n : Int)
    · simp only [hn, decide_true, if_true] at hx
      cases hx
      exact .inl ⟨0, v, rfl, by simpa using hn, rfl⟩
    · simp only [hn, decide_false, Bool.false_eq_true, if_false] at hx
      rcases pickR_inv r (n + 1) _ hx with ⟨i, u, h1, h2, h3⟩ | ⟨h1, h2⟩
      · exact .inl ⟨i + 1, u, by simpa using h1, by rw [h2]; congr 1; omega, h3⟩
      · refine .inr ⟨fun i hi => ?_, h2⟩
        cases i with
        | zero => simpa using hn
        | succ i =>
          have := h1 i (by simpa using hi)
          rw [show n + (i + 1) = n + 1 + i by omega]; exact this
end Go.Vm

namespace Go.Vm
theorem wrap64 {n : Int} (h1 : -9223372036854775808 ≤ n) (h2 : n < 9223372036854775808) : IntKind.i64.wrap n = n := by
  have e : IntKind.i64.wrap n = if n % 18446744073709551616 ≥ 9223372036854775808 then n % 18446744073709551616 - 18446744073709551616 else n % 18446744073709551616 := by
    simp [IntKind.wrap, IntKind.bits, IntKind.signed]
  rw [e]; split <;> omega
theorem wrap32 {n : Int} (h1 : -2147483648 ≤ n) (h2 : n < 2147483648) : IntKind.i32.wrap n = n := by
  have e : IntKind.i32.wrap n = if n % 4294967296 ≥ 2147483648 then n % 4294967296 - 4294967296 else n % 4294967296 := by
    simp [IntKind.wrap, IntKind.bits, IntKind.signed]
  rw [e]; split <;> omega
end Go.Vm

namespace Go.Vm

def limB (a b c i ha hb hc lo hi : Int) : Bool :=
  onB (decide (a < 0)) false (onB (decide (a > ha)) false (onB (decide (b < 0)) false (onB (decide (b > hb)) false
  (onB (decide (c < 0)) false (onB (decide (c > hc)) false (onB (decide (i < lo)) false (onB (decide (i > hi)) false true)))))))
def limV (a b c i ha hb hc lo hi : Int) : Option Value :=
  onB (decide (a < 0)) (some (.bool false)) (onB (decide (a > ha)) (some (.bool false)) (onB (decide (b < 0)) (some (.bool false)) (onB (decide (b > hb)) (some (.bool false))
  (onB (decide (c < 0)) (some (.bool false)) (onB (decide (c > hc)) (some (.bool false)) (onB (decide (i < lo)) (some (.bool false)) (onB (decide (i > hi)) (some (.bool false)) (some (.bool true)))))))))
theorem onB_bool (b : Bool) (x y : Bool) : onB b (some (Value.bool x)) (some (.bool y)) = some (.bool (onB b x y)) := by cases b <;> rfl
theorem limV_eq (a b c i ha hb hc lo hi : Int) : limV a b c i ha hb hc lo hi = some (.bool (limB a b c i ha hb hc lo hi)) := by
  unfold limV limB
  simp only [onB_bool]
theorem limB_iff {a b c i ha hb hc lo hi : Int} : limB a b c i ha hb hc lo hi = true ↔ 0 ≤ a ∧ a ≤ ha ∧ 0 ≤ b ∧ b ≤ hb ∧ 0 ≤ c ∧ c ≤ hc ∧ lo ≤ i ∧ i ≤ hi := by
  unfold limB onB
  constructor
  · intro h
    repeat (split at h; · cases h)
    simp only [decide_eq_false_iff_not] at *
    omega
  · intro h
    simp only [show decide (a < 0) = false by simp; omega, show decide (a > ha) = false by simp; omega, show decide (b < 0) = false by simp; omega, show decide (b > hb) = false by simp; omega,
      show decide (c < 0) = false by simp; omega, show decide (c > hc) = false by simp; omega, show decide (i < lo) = false by simp; omega, show decide (i > hi) = false by simp; omega]

abbrev Lim := Int × Int × Int × Int × Int
def limOf (l : Lim) (i : Ins) : Bool := limB i.a i.b i.c i.imm l.1 l.2.1 l.2.2.1 l.2.2.2.1 l.2.2.2.2
def Ins.valid (i : Ins) : Bool := match nth limsL i.op.toNat with
  | some l => limOf l i
  | none => false
def Ins.byte (i : Ins) : Bool := decide (0 ≤ i.op) && decide (i.op < 256)
def validT (i : Ins) : Tr Bool := .node i.byte (.leaf i.valid) .fail
end Go.Vm

namespace Go.Vm

abbrev Rg := Nat → Int
def tR : Ty Rg := tU .i32 32 (fun f => f) (fun f => f) (fun _ _ _ => rfl)
def Rg.zero : Rg := fun _ => 0
/-- What comes of the registers one after the other. -/
def scan {γ : Type} (y : γ) : Nat → Nat → Rg → γ → γ
  | 0, _, _, z => z
  | n + 1, i, r, z => onB (decide (r i > r (i + 1))) y (scan y n (i + 2) r z)
theorem scan_bool (y : Bool) (r : Rg) (z : Bool) : ∀ n i, scan (some (Value.bool y)) n i r (some (.bool z)) = some (.bool (scan y n i r z))
  | 0, _ => rfl
  | n + 1, i => by simp only [scan, scan_bool y r z n, onB_bool]
theorem scan_of {γ : Type} (y : γ) (r : Rg) (z : γ) : ∀ n i, (∀ k, k < n → r (i + 2 * k) ≤ r (i + 2 * k + 1)) → scan y n i r z = z
  | 0, _, _ => rfl
  | n + 1, i, h => by
    have h0 := h 0 (by omega)
    simp only [Nat.mul_zero, Nat.add_zero] at h0
    simp only [scan, show decide (r i > r (i + 1)) = false by simp; omega, onB]
    exact scan_of y r z n (i + 2) fun k hk => by
      have := h (k + 1) (by omega)
      rw [show i + 2 + 2 * k = i + 2 * (k + 1) by omega]; exact this
theorem scan_false {r : Rg} {z : Bool} : ∀ n i, scan true n i r z = false → (∀ k, k < n → r (i + 2 * k) ≤ r (i + 2 * k + 1)) ∧ z = false
  | 0, _, h => ⟨fun k hk => by omega, h⟩
  | n + 1, i, h => by
    simp only [scan, onB] at h
    split at h
    · cases h
    · rename_i hd
      obtain ⟨h1, h2⟩ := scan_false n (i + 2) h
      refine ⟨fun k hk => ?_, h2⟩
      cases k with
      | zero => simp at hd ⊢; omega
      | succ k =>
        have := h1 k (by omega)
        rw [show i + 2 * (k + 1) = i + 2 + 2 * k by omega]; exact this
def no0 (r : Rg) : Bool := !(r 0 == 0 && (r 1 == 0 && true))
/-- law28's bad. -/
def Rg.bad (r : Rg) : Bool := scan true 16 0 r (no0 r)
structure Rg.Ok (r : Rg) : Prop where
  le : ∀ k, k < 16 → r (2 * k) ≤ r (2 * k + 1)
  lo : r 0 = 0
  hi : r 1 = 0
theorem Rg.ok_of_bad {r : Rg} (h : r.bad = false) : r.Ok := by
  obtain ⟨h1, h2⟩ := scan_false _ _ h
  simp [no0] at h2
  exact ⟨fun k hk => by have := h1 k hk; simpa using this, h2.1, h2.2⟩
theorem Rg.Ok.bad {r : Rg} (h : r.Ok) : r.bad = false := by
  unfold Rg.bad
  rw [scan_of _ _ _ 16 0 fun k hk => by have := h.le k hk; simpa using this]
  simp [no0, h.lo, h.hi]
/-- value.good. -/
def goodV {γ : Type} (_ : Ins) (r : Rg) (f : γ) (z : γ) : γ := onB (decide (r 0 > r 1)) f (onB (no0 r) f (scan f 15 2 r z))
def Rg.good (i : Ins) (r : Rg) : Bool := goodV i r false i.valid
def goodT (i : Ins) (r : Rg) : Tr Bool := .node i.byte (.leaf (r.good i)) .fail
theorem Rg.Ok.good {r : Rg} (h : r.Ok) (i : Ins) : r.good i = i.valid := by
  have h0 := h.le 0 (by omega)
  simp only [Nat.mul_zero, Nat.zero_add] at h0
  unfold Rg.good goodV
  rw [show decide (r 0 > r 1) = false by simp; omega, show no0 r = false by simp [no0, h.lo, h.hi]]
  simp only [onB]
  exact scan_of _ _ _ 15 2 fun k hk => by
    have := h.le (k + 1) (by omega)
    rw [show 2 + 2 * k = 2 * (k + 1) by omega]; exact this
theorem Rg.ok_of_good {i : Ins} {r : Rg} (h : r.good i = true) : r.Ok ∧ i.valid = true := by
  unfold Rg.good goodV at h
  simp only [onB] at h
  split at h
  · cases h
  · rename_i h0
    split at h
    · cases h
    · rename_i h1
      have key : ∀ n i z, scan false n i r z = true → (∀ k, k < n → r (i + 2 * k) ≤ r (i + 2 * k + 1)) ∧ z = true := by
        intro n
        induction n with
        | zero => intro i z h; exact ⟨fun k hk => by omega, h⟩
        | succ n ih =>
          intro i z h
          simp only [scan, onB] at h
          split at h
          · cases h
          · rename_i hd
            obtain ⟨a, b⟩ := ih (i + 2) z h
            refine ⟨fun k hk => ?_, b⟩
            cases k with
            | zero => simp at hd ⊢; omega
            | succ k =>
              have := a k (by omega)
              rw [show i + 2 * (k + 1) = i + 2 + 2 * k by omega]; exact this
      obtain ⟨a, b⟩ := key _ _ _ h
      simp [no0] at h1
      refine ⟨⟨fun k hk => ?_, h1.1, h1.2⟩, b⟩
      cases k with
      | zero => simp at h0; simpa using h0
      | succ k =>
        have := a k (by omega)
        rw [show 2 * (k + 1) = 2 + 2 * k by omega]; exact this

/-! One register: in a value ('getO' at its place), in a block ('0 +' its place). -/
def Rg.getO (r : Rg) (o : Nat) : I := ⟨selInt (cellsI .i32 r 0 32) o, selInt (cellsI .i32 r 0 32) (o + 1)⟩
def Rg.putO (r : Rg) (o : Nat) (x : I) : Rg := fun j => updInt o [.int .i32 x.lo, .int .i32 x.hi] j (r j)
def Rg.get (r : Rg) (a : Int) : I := r.getO (0 + a.toNat * 2)
def Rg.put (r : Rg) (a : Int) (x : I) : Rg := r.putO (0 + a.toNat * 2) x
theorem Rg.getO_eq (r : Rg) {k : Nat} (h : k < 16) : r.getO (k * 2) = ⟨r (2 * k), r (2 * k + 1)⟩ := by
  unfold Rg.getO
  rw [sel_cells (by omega), sel_cells (by omega), Nat.mul_comm]
theorem Rg.get_eq (r : Rg) {a : Int} (h : a.toNat < 16) : r.get a = ⟨r (2 * a.toNat), r (2 * a.toNat + 1)⟩ := by
  unfold Rg.get
  rw [Nat.zero_add, Rg.getO_eq r h]
theorem ble_dec (a b : Nat) : Nat.ble a b = decide (a ≤ b) := by
  by_cases h : a ≤ b
  · rw [Nat.ble_eq_true_of_le h]; simp [h]
  · have : Nat.ble a b = false := by
      cases hb : Nat.ble a b
      · rfl
      · exact absurd (Nat.le_of_ble_eq_true hb) h
    simp [h, this]
theorem Rg.putO_eq (r : Rg) (k : Nat) (x : I) (j : Nat) : r.putO (k * 2) x j = if j = 2 * k then x.lo else if j = 2 * k + 1 then x.hi else r j := by
  unfold Rg.putO updInt
  rw [ble_dec]
  by_cases h0 : j = 2 * k
  · subst h0
    simp [show k * 2 ≤ 2 * k by omega, show 2 * k - k * 2 = 0 by omega, nth]
  · by_cases h1 : j = 2 * k + 1
    · subst h1
      simp [show k * 2 ≤ 2 * k + 1 by omega, show 2 * k + 1 - k * 2 = 1 by omega, nth]
    · by_cases h2 : k * 2 ≤ j
      · obtain ⟨m, rfl⟩ : ∃ m, j = k * 2 + 2 + m := ⟨j - k * 2 - 2, by omega⟩
        simp [h0, h1, h2, show k * 2 + 2 + m - k * 2 = m + 2 by omega, nth]
      · simp [h0, h1, h2]
theorem Rg.put_eq (r : Rg) (a : Int) (x : I) (j : Nat) : r.put a x j = if j = 2 * a.toNat then x.lo else if j = 2 * a.toNat + 1 then x.hi else r j := by
  unfold Rg.put
  rw [Nat.zero_add, Rg.putO_eq]
end Go.Vm

namespace Go.Vm

def I.nz (x : I) : I := onB (x.lo == 0 && (x.hi == 0 && true)) I.none (onB (x.lo == 0) ⟨1, x.hi⟩ (onB (x.hi == 0) ⟨x.lo, -1⟩ x))
def Rs.two : Rs (Rg × Bool) := Rs.pair tR tBool
/-- A place in the registers' block. -/
def acc {γ : Type} (a : Int) (z f : γ) : γ := onB (decide (0 ≤ a)) (onB (decide (a < 16)) (onB (Nat.ble (0 + a.toNat * 2 + 2) 32) z f) f) f
def refS {γ : Type} (e : Rg × Bool → γ) (n : γ) (i : Ins) (r : Rg) (x : I) : γ :=
  acc i.a (acc i.a (onB (((r.put i.a x).get i.a).emp) (e (Rg.zero, false)) (e (r.put i.a x, true))) n) n
def refB {γ : Type} (e : Rg × Bool → γ) (n : γ) (i : Ins) (r : Rg) (t : Bool) : γ :=
  onB (t == (i.op == 22)) (acc i.a (refS e n i r ((r.get i.a).meet (I.of 0))) n) (acc i.a (refS e n i r (r.get i.a).nz) n)
def refV {γ : Type} (e : Rg × Bool → γ) (n : γ) (i : Ins) (r : Rg) (t : Bool) : γ :=
  onB i.byte (onB (!r.good i) (e (Rg.zero, false)) (onB (i.op == 22) (refB e n i r t) (onB (i.op == 23) (refB e n i r t)
    (onB (!(t == (i.op == 24))) (e (Rg.zero, false)) (e (r, true)))))) n

theorem lims_small : ∀ l ∈ limsL, l.1 ≤ 15 ∧ l.2.1 ≤ 15 ∧ l.2.2.1 ≤ 15 ∧ -131072 ≤ l.2.2.2.1 ∧ l.2.2.2.2 ≤ 131071 := by decide
theorem Ins.valid_lim {i : Ins} (h : i.valid = true) : ∃ l, limsL[i.op.toNat]? = some l ∧ 0 ≤ i.a ∧ i.a ≤ l.1 ∧ 0 ≤ i.b ∧ i.b ≤ l.2.1 ∧ 0 ≤ i.c ∧ i.c ≤ l.2.2.1 ∧ l.2.2.2.1 ≤ i.imm ∧ i.imm ≤ l.2.2.2.2 := by
  unfold Ins.valid at h
  rw [nth_eq] at h
  split at h
  · rename_i l hl
    exact ⟨l, hl, limB_iff.1 h⟩
  · cases h
structure Ins.Small (i : Ins) : Prop where
  op : i.op < 30
  a0 : 0 ≤ i.a
  a1 : i.a ≤ 15
  b0 : 0 ≤ i.b
  b1 : i.b ≤ 15
  c0 : 0 ≤ i.c
  c1 : i.c ≤ 15
  m0 : -131072 ≤ i.imm
  m1 : i.imm ≤ 131071
theorem Ins.small {i : Ins} (h : i.valid = true) : i.Small := by
  obtain ⟨l, hl, h⟩ := i.valid_lim h
  have h1 := lims_small l (List.mem_of_getElem? hl)
  have h2 := (List.getElem?_eq_some_iff.1 hl).1
  have h3 : limsL.length = 30 := rfl
  exact ⟨by omega, by omega, by omega, by omega, by omega, by omega, by omega, by omega, by omega⟩
theorem acc_eq {γ : Type} {a : Int} {z f : γ} (h0 : 0 ≤ a) (h1 : a < 16) : acc a z f = z := by
  unfold acc
  rw [ble_dec]
  rw [show decide (0 ≤ a) = true by simpa using h0, show decide (a < 16) = true by simpa using h1, show decide (0 + a.toNat * 2 + 2 ≤ 32) = true by simp; omega]
  rfl

def refC (i : Ins) (r : Rg) (x : I) : Rg × Bool := onB (((r.put i.a x).get i.a).emp) (Rg.zero, false) (r.put i.a x, true)
def refD (i : Ins) (r : Rg) (t : Bool) : Rg × Bool := onB (t == (i.op == 22)) (refC i r ((r.get i.a).meet (I.of 0))) (refC i r (r.get i.a).nz)
/-- value.Refine. -/
def Rg.refine (i : Ins) (r : Rg) (t : Bool) : Rg × Bool :=
  onB (!r.good i) (Rg.zero, false) (onB (i.op == 22) (refD i r t) (onB (i.op == 23) (refD i r t) (onB (!(t == (i.op == 24))) (Rg.zero, false) (r, true))))
def refineT (i : Ins) (r : Rg) (t : Bool) : Tr (Rg × Bool) := .node i.byte (.leaf (r.refine i t)) .fail
theorem onB_map {γ δ : Type} (f : γ → δ) (b : Bool) (x y : γ) : onB b (f x) (f y) = f (onB b x y) := by cases b <;> rfl
theorem onB_t {γ : Type} (x y : γ) : onB true x y = x := rfl
theorem onB_f {γ : Type} (x y : γ) : onB false x y = y := rfl
theorem refV_eq {γ : Type} (e : Rg × Bool → γ) (n : γ) (i : Ins) (r : Rg) (t : Bool) (hb : i.byte = true) : refV e n i r t = e (r.refine i t) := by
  unfold refV Rg.refine
  rw [hb, onB_t]
  cases hg : r.good i with
  | false => rfl
  | true =>
    have hs := Ins.small (Rg.ok_of_good hg).2
    have key : refB e n i r t = e (refD i r t) := by
      unfold refB refD refS refC
      simp only [acc_eq hs.a0 (show i.a < 16 by have := hs.a1; omega), onB_map]
    simp only [Bool.not_true, onB_f, key, onB_map]
end Go.Vm

