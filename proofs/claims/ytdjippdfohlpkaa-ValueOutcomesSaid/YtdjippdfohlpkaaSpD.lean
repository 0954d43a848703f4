/- isa.find by branches. -/
import Derived.Test.YtdjippdfohlpkaaSpC
namespace Go.Vm

abbrev FV := { v : Value // flat2 v = true }
def rsV : Rs FV := ⟨Subtype.val, Subtype.property⟩

def pickR (op : Int) : Nat → (l : List Value) → l.all flat = true → Tr FV → Tr FV
  | _, [], _, z => z
  | n, v :: r, h, z => .node (decide (op = (n : Int))) (.leaf ⟨.tuple #[v, .bool true], by
      simp only [List.all_cons, Bool.and_eq_true] at h
      show [v, .bool true].all flat = true
      simp only [List.all_cons, h.1, List.all_nil, Bool.and_true, Bool.true_and]
      rfl⟩) (pickR op (n + 1) r (by
      simp only [List.all_cons, Bool.and_eq_true] at h
      exact h.2) z)
def findT (op : Int) : Tr FV := pickR op 0 rowsV (by decide) (.node (decide (30 ≤ op) && decide (op < 256)) (.leaf ⟨.tuple #[rowZ, .bool false], by decide⟩) .fail)
end Go.Vm
namespace Go.Vm
theorem pickR_inv {op : Int} {z : Tr FV} {x : FV} : ∀ (l : List Value) (n : Nat) (h : l.all flat = true), (pickR op n l h z).eval = some x →
    (∃ i v, l[i]? = some v ∧ op = ((n + i : Nat) : Int) ∧ x.val = .tuple #[v, .bool true]) ∨ ((∀ i, i < l.length → op ≠ ((n + i : Nat) : Int)) ∧ z.eval = some x)
  | [], n, h, hx => .inr ⟨fun i hi => by simp at hi, hx⟩
  | v :: r, n, h, hx => by
    simp only [pickR, eval_node] at hx
    by_cases hn : op = (n : Int)
    · simp only [hn, decide_true, if_true] at hx
      cases hx
      exact .inl ⟨0, v, rfl, by simpa using hn, rfl⟩
    · simp only [hn, decide_false, Bool.false_eq_true, if_false] at hx
      rcases pickR_inv r (n + 1) _ hx with ⟨i, u, h1, h2, h3⟩ | ⟨h1, h2⟩
      · exact .inl ⟨i + 1, u, by simpa using h1, by rw [h2]; congr 1; omega, h3⟩
      · refine .inr ⟨fun i hi => ?_, h2⟩
        cases i with
        | zero => simpa using hn
        | succ i =>
          have := h1 i (by simpa using hi)
          rw [show n + (i + 1) = n + 1 + i by omega]; exact this
end Go.Vm

namespace Go.Vm
theorem wrap64 {n : Int} (h1 : -9223372036854775808 ≤ n) (h2 : n < 9223372036854775808) : IntKind.i64.wrap n = n := by
  have e : IntKind.i64.wrap n = if n % 18446744073709551616 ≥ 9223372036854775808 then n % 18446744073709551616 - 18446744073709551616 else n % 18446744073709551616 := by
    simp [IntKind.wrap, IntKind.bits, IntKind.signed]
  rw [e]; split <;> omega
theorem wrap32 {n : Int} (h1 : -2147483648 ≤ n) (h2 : n < 2147483648) : IntKind.i32.wrap n = n := by
  have e : IntKind.i32.wrap n = if n % 4294967296 ≥ 2147483648 then n % 4294967296 - 4294967296 else n % 4294967296 := by
    simp [IntKind.wrap, IntKind.bits, IntKind.signed]
  rw [e]; split <;> omega
end Go.Vm
