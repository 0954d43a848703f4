/- Contracts of isa.find. -/
import Derived.Test.YtdjippdfohlpkaaP0
import Derived.Test.YtdjippdfohlpkaaCa
namespace Go.Proofs.Ytdjippdfohlpkaa
open Go Go.Vm
set_option maxRecDepth 100000

noncomputable def TR : Tab := [(61, inl Try.prog [] 20 61)]
theorem TR_ok : TOK TR := tab_cons (inl_ok okay tab_nil _ _) tab_nil
def litV (i : Nat) : Option Value := some (.tuple #[(nth rowsV i).getD rowZ, .bool true])
theorem find_lit : ∀ i : Nat, i < 30 → runS Try.prog TR 20 32 [.int .u8 (i : Int)] = litV i
  | 0, _ => by kernel_rfl
  | 1, _ => by kernel_rfl
  | 2, _ => by kernel_rfl
  | 3, _ => by kernel_rfl
  | 4, _ => by kernel_rfl
  | 5, _ => by kernel_rfl
  | 6, _ => by kernel_rfl
  | 7, _ => by kernel_rfl
  | 8, _ => by kernel_rfl
  | 9, _ => by kernel_rfl
  | 10, _ => by kernel_rfl
  | 11, _ => by kernel_rfl
  | 12, _ => by kernel_rfl
  | 13, _ => by kernel_rfl
  | 14, _ => by kernel_rfl
  | 15, _ => by kernel_rfl
  | 16, _ => by kernel_rfl
  | 17, _ => by kernel_rfl
  | 18, _ => by kernel_rfl
  | 19, _ => by kernel_rfl
  | 20, _ => by kernel_rfl
  | 21, _ => by kernel_rfl
  | 22, _ => by kernel_rfl
  | 23, _ => by kernel_rfl
  | 24, _ => by kernel_rfl
  | 25, _ => by kernel_rfl
  | 26, _ => by kernel_rfl
  | 27, _ => by kernel_rfl
  | 28, _ => by kernel_rfl
  | 29, _ => by kernel_rfl
  | n + 30, h => absurd h (by omega)
theorem find_out (op : Int) (h : IntKind.i64.wrap op ≥ 30) : runS Try.prog TR 20 32 [.int .u8 op] = some (.tuple #[rowZ, .bool false]) := by
  have h1 : (Vm.runT Try.prog (hkP Try.prog) (tabK TR) 20 32 [.int .u8 op] heap0).follow (List.replicate 36 true ++ [false, true]) = some (decide (IntKind.i64.wrap op ≥ 30) && true, .tuple #[rowZ, .bool false]) := by kernel_rfl
  exact follow_eval h1 (by simpa using h)

theorem c_find : C 32 (fn1 (tInt .u8) rsV findT) := fn1_ok okay TR_ok fun op r hr => ⟨20, by
  rcases pickR_inv _ _ _ hr with ⟨i, v, h1, h2, h3⟩ | ⟨_, h2⟩
  · have hi : i < 30 := (List.getElem?_eq_some_iff.1 h1).1
    have := find_lit i hi
    rw [h2, Nat.zero_add]
    show runS Try.prog TR 20 32 [.int .u8 (i : Int)] = some r.val
    rw [this, h3, litV, nth_eq, h1]
    rfl
  · rw [eval_node] at h2
    by_cases hb : (decide (30 ≤ op) && decide (op < 256)) = true
    · rw [if_pos hb] at h2
      cases h2
      simp only [Bool.and_eq_true, decide_eq_true_eq] at hb
      refine find_out op ?_
      rw [wrap64 (by omega) (by omega)]; exact hb.1
    · rw [if_neg hb] at h2
      cases h2⟩
end Go.Proofs.Ytdjippdfohlpkaa
