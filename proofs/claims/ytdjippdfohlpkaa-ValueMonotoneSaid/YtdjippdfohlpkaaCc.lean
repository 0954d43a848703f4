/- The contract of isa.Valid. -/
import Derived.Test.YtdjippdfohlpkaaP0
import Derived.Test.YtdjippdfohlpkaaCb
namespace Go.Proofs.Ytdjippdfohlpkaa
open Go Go.Vm
set_option maxRecDepth 100000

noncomputable def TV : Tab := [(32, fn1 (tInt .u8) rsV findT), (33, inl Try.prog [] 20 33),
  (34, inl Try.prog [(62, inl Try.prog [(94, inl Try.prog [] 20 94)] 20 62)] 20 34)]
theorem TV_ok : TOK TV := tab_cons c_find (tab_cons (inl_ok okay tab_nil _ _) (tab_cons (inl_ok okay (tab_cons (inl_ok okay (tab_cons (inl_ok okay tab_nil _ _) tab_nil) _ _) tab_nil) _ _) tab_nil))
theorem valid_lit : ∀ k : Nat, k < 30 → ∀ a b c d : Int, runS Try.prog TV 20 11 [tIns.enc ⟨(k : Int), a, b, c, d⟩] = some (.bool (Ins.valid ⟨(k : Int), a, b, c, d⟩))
  | 0, _ => fun a b c d => by
    have h : runS Try.prog TV 20 11 [tIns.enc ⟨0, a, b, c, d⟩] = limV a b c d 0 0 0 0 0 := by kernel_rfl
    exact h.trans (limV_eq ..)
  | 1, _ => fun a b c d => by
    have h : runS Try.prog TV 20 11 [tIns.enc ⟨1, a, b, c, d⟩] = limV a b c d 0 0 0 0 0 := by kernel_rfl
    exact h.trans (limV_eq ..)
  | 2, _ => fun a b c d => by
    have h : runS Try.prog TV 20 11 [tIns.enc ⟨2, a, b, c, d⟩] = limV a b c d 15 15 15 0 0 := by kernel_rfl
    exact h.trans (limV_eq ..)
  | 3, _ => fun a b c d => by
    have h : runS Try.prog TV 20 11 [tIns.enc ⟨3, a, b, c, d⟩] = limV a b c d 15 15 15 0 0 := by kernel_rfl
    exact h.trans (limV_eq ..)
  | 4, _ => fun a b c d => by
    have h : runS Try.prog TV 20 11 [tIns.enc ⟨4, a, b, c, d⟩] = limV a b c d 15 15 15 0 0 := by kernel_rfl
    exact h.trans (limV_eq ..)
  | 5, _ => fun a b c d => by
    have h : runS Try.prog TV 20 11 [tIns.enc ⟨5, a, b, c, d⟩] = limV a b c d 15 15 15 0 0 := by kernel_rfl
    exact h.trans (limV_eq ..)
  | 6, _ => fun a b c d => by
    have h : runS Try.prog TV 20 11 [tIns.enc ⟨6, a, b, c, d⟩] = limV a b c d 15 15 15 0 0 := by kernel_rfl
    exact h.trans (limV_eq ..)
  | 7, _ => fun a b c d => by
    have h : runS Try.prog TV 20 11 [tIns.enc ⟨7, a, b, c, d⟩] = limV a b c d 15 15 15 0 0 := by kernel_rfl
    exact h.trans (limV_eq ..)
  | 8, _ => fun a b c d => by
    have h : runS Try.prog TV 20 11 [tIns.enc ⟨8, a, b, c, d⟩] = limV a b c d 15 15 15 0 0 := by kernel_rfl
    exact h.trans (limV_eq ..)
  | 9, _ => fun a b c d => by
    have h : runS Try.prog TV 20 11 [tIns.enc ⟨9, a, b, c, d⟩] = limV a b c d 15 15 15 0 0 := by kernel_rfl
    exact h.trans (limV_eq ..)
  | 10, _ => fun a b c d => by
    have h : runS Try.prog TV 20 11 [tIns.enc ⟨10, a, b, c, d⟩] = limV a b c d 15 15 15 0 0 := by kernel_rfl
    exact h.trans (limV_eq ..)
  | 11, _ => fun a b c d => by
    have h : runS Try.prog TV 20 11 [tIns.enc ⟨11, a, b, c, d⟩] = limV a b c d 15 15 15 0 0 := by kernel_rfl
    exact h.trans (limV_eq ..)
  | 12, _ => fun a b c d => by
    have h : runS Try.prog TV 20 11 [tIns.enc ⟨12, a, b, c, d⟩] = limV a b c d 15 15 15 0 0 := by kernel_rfl
    exact h.trans (limV_eq ..)
  | 13, _ => fun a b c d => by
    have h : runS Try.prog TV 20 11 [tIns.enc ⟨13, a, b, c, d⟩] = limV a b c d 15 15 15 0 0 := by kernel_rfl
    exact h.trans (limV_eq ..)
  | 14, _ => fun a b c d => by
    have h : runS Try.prog TV 20 11 [tIns.enc ⟨14, a, b, c, d⟩] = limV a b c d 15 0 0 (-131072) 131071 := by kernel_rfl
    exact h.trans (limV_eq ..)
  | 15, _ => fun a b c d => by
    have h : runS Try.prog TV 20 11 [tIns.enc ⟨15, a, b, c, d⟩] = limV a b c d 15 15 0 (-131072) 131071 := by kernel_rfl
    exact h.trans (limV_eq ..)
  | 16, _ => fun a b c d => by
    have h : runS Try.prog TV 20 11 [tIns.enc ⟨16, a, b, c, d⟩] = limV a b c d 15 15 0 0 31 := by kernel_rfl
    exact h.trans (limV_eq ..)
  | 17, _ => fun a b c d => by
    have h : runS Try.prog TV 20 11 [tIns.enc ⟨17, a, b, c, d⟩] = limV a b c d 15 15 0 0 16383 := by kernel_rfl
    exact h.trans (limV_eq ..)
  | 18, _ => fun a b c d => by
    have h : runS Try.prog TV 20 11 [tIns.enc ⟨18, a, b, c, d⟩] = limV a b c d 15 15 0 (-131072) 131071 := by kernel_rfl
    exact h.trans (limV_eq ..)
  | 19, _ => fun a b c d => by
    have h : runS Try.prog TV 20 11 [tIns.enc ⟨19, a, b, c, d⟩] = limV a b c d 15 15 0 (-131072) 131071 := by kernel_rfl
    exact h.trans (limV_eq ..)
  | 20, _ => fun a b c d => by
    have h : runS Try.prog TV 20 11 [tIns.enc ⟨20, a, b, c, d⟩] = limV a b c d 15 15 0 (-131072) 131071 := by kernel_rfl
    exact h.trans (limV_eq ..)
  | 21, _ => fun a b c d => by
    have h : runS Try.prog TV 20 11 [tIns.enc ⟨21, a, b, c, d⟩] = limV a b c d 15 15 0 (-131072) 131071 := by kernel_rfl
    exact h.trans (limV_eq ..)
  | 22, _ => fun a b c d => by
    have h : runS Try.prog TV 20 11 [tIns.enc ⟨22, a, b, c, d⟩] = limV a b c d 15 0 0 (-131072) 131071 := by kernel_rfl
    exact h.trans (limV_eq ..)
  | 23, _ => fun a b c d => by
    have h : runS Try.prog TV 20 11 [tIns.enc ⟨23, a, b, c, d⟩] = limV a b c d 15 0 0 (-131072) 131071 := by kernel_rfl
    exact h.trans (limV_eq ..)
  | 24, _ => fun a b c d => by
    have h : runS Try.prog TV 20 11 [tIns.enc ⟨24, a, b, c, d⟩] = limV a b c d 0 0 0 (-131072) 131071 := by kernel_rfl
    exact h.trans (limV_eq ..)
  | 25, _ => fun a b c d => by
    have h : runS Try.prog TV 20 11 [tIns.enc ⟨25, a, b, c, d⟩] = limV a b c d 15 0 0 1 131071 := by kernel_rfl
    exact h.trans (limV_eq ..)
  | 26, _ => fun a b c d => by
    have h : runS Try.prog TV 20 11 [tIns.enc ⟨26, a, b, c, d⟩] = limV a b c d 15 0 0 0 7 := by kernel_rfl
    exact h.trans (limV_eq ..)
  | 27, _ => fun a b c d => by
    have h : runS Try.prog TV 20 11 [tIns.enc ⟨27, a, b, c, d⟩] = limV a b c d 15 0 0 0 7 := by kernel_rfl
    exact h.trans (limV_eq ..)
  | 28, _ => fun a b c d => by
    have h : runS Try.prog TV 20 11 [tIns.enc ⟨28, a, b, c, d⟩] = limV a b c d 0 0 0 0 3 := by kernel_rfl
    exact h.trans (limV_eq ..)
  | 29, _ => fun a b c d => by
    have h : runS Try.prog TV 20 11 [tIns.enc ⟨29, a, b, c, d⟩] = limV a b c d 0 0 0 0 3 := by kernel_rfl
    exact h.trans (limV_eq ..)
  | k + 30, h => by omega
theorem valid_out (a b c d op : Int) (h : 30 ≤ op) (h2 : op < 256) : runS Try.prog TV 20 11 [tIns.enc ⟨op, a, b, c, d⟩] = some (.bool false) := by
  have hh : (Vm.runT Try.prog (hkP Try.prog) (tabK TV) 20 11 [tIns.enc ⟨op, a, b, c, d⟩] heap0).follow (List.replicate 31 false ++ [true, true]) =
    some (!decide (op = 0) && (!decide (op = 1) && (!decide (op = 2) && (!decide (op = 3) && (!decide (op = 4) && (!decide (op = 5) && (!decide (op = 6) && (!decide (op = 7) && (!decide (op = 8) && (!decide (op = 9) && (!decide (op = 10) && (!decide (op = 11) && (!decide (op = 12) && (!decide (op = 13) && (!decide (op = 14) && (!decide (op = 15) && (!decide (op = 16) && (!decide (op = 17) && (!decide (op = 18) && (!decide (op = 19) && (!decide (op = 20) && (!decide (op = 21) && (!decide (op = 22) && (!decide (op = 23) && (!decide (op = 24) && (!decide (op = 25) && (!decide (op = 26) && (!decide (op = 27) && (!decide (op = 28) && (!decide (op = 29) && ((decide (30 ≤ op) && decide (op < 256)) && true)))))))))))))))))))))))))))))), .bool false) := by kernel_rfl
  refine follow_eval hh ?_
  have e : ∀ k : Nat, k < 30 → decide (op = (k : Int)) = false := fun k hk => by simp; omega
  simp [h, h2]
  omega
theorem c_Valid : C 11 (fn1 tIns tBool.rs validT) := fn1_ok okay TV_ok fun i r hr => ⟨20, by
  obtain ⟨op, a, b, c, d⟩ := i
  unfold validT at hr
  rw [eval_node] at hr
  by_cases hb : Ins.byte ⟨op, a, b, c, d⟩ = true
  · rw [if_pos hb] at hr
    cases hr
    simp only [Ins.byte, Bool.and_eq_true, decide_eq_true_eq] at hb
    by_cases h30 : op < 30
    · obtain ⟨k, rfl⟩ := Int.eq_ofNat_of_zero_le hb.1
      exact valid_lit k (by omega) a b c d
    · have e : Ins.valid ⟨op, a, b, c, d⟩ = false := by
        unfold Ins.valid
        rw [nth_eq, List.getElem?_eq_none (by simp only [limsL, List.length_cons, List.length_nil]; omega)]
      rw [e]
      exact valid_out a b c d op (by omega) hb.2
  · rw [if_neg hb] at hr; cases hr⟩
end Go.Proofs.Ytdjippdfohlpkaa
