/- The contract of value.Transfer. -/
import Derived.Test.YtdjippdfohlpkaaP2
import Derived.Test.YtdjippdfohlpkaaCn
namespace Go.Proofs.Ytdjippdfohlpkaa
open Go Go.Vm
set_option maxRecDepth 100000

noncomputable def Tp : Tab := (49, fn3 (tInt .u8) tI tI tI.rs (applyT applyOps)) :: (50, inl Try.prog [] 20 50) :: TG
theorem Tp_ok : TOK Tp := tab_cons c_Apply (tab_cons (I_ok tab_nil _ _) TG_ok)
theorem transfer_lit : ∀ k : Nat, k < 30 → ∀ (a b c d : Int) (r : Rg), runS Try.prog Tp 20 20 [tIns.enc ⟨(k : Int), a, b, c, d⟩, tR.enc r] = trV (fun x => some (Rs.two.enc x)) none ⟨(k : Int), a, b, c, d⟩ r k
  | 0, _ => fun a b c d r => by kernel_rfl
  | 1, _ => fun a b c d r => by kernel_rfl
  | 2, _ => fun a b c d r => by kernel_rfl
  | 3, _ => fun a b c d r => by kernel_rfl
  | 4, _ => fun a b c d r => by kernel_rfl
  | 5, _ => fun a b c d r => by kernel_rfl
  | 6, _ => fun a b c d r => by kernel_rfl
  | 7, _ => fun a b c d r => by kernel_rfl
  | 8, _ => fun a b c d r => by kernel_rfl
  | 9, _ => fun a b c d r => by kernel_rfl
  | 10, _ => fun a b c d r => by kernel_rfl
  | 11, _ => fun a b c d r => by kernel_rfl
  | 12, _ => fun a b c d r => by kernel_rfl
  | 13, _ => fun a b c d r => by kernel_rfl
  | 14, _ => fun a b c d r => by kernel_rfl
  | 15, _ => fun a b c d r => by kernel_rfl
  | 16, _ => fun a b c d r => by kernel_rfl
  | 17, _ => fun a b c d r => by kernel_rfl
  | 18, _ => fun a b c d r => by kernel_rfl
  | 19, _ => fun a b c d r => by kernel_rfl
  | 20, _ => fun a b c d r => by kernel_rfl
  | 21, _ => fun a b c d r => by kernel_rfl
  | 22, _ => fun a b c d r => by kernel_rfl
  | 23, _ => fun a b c d r => by kernel_rfl
  | 24, _ => fun a b c d r => by kernel_rfl
  | 25, _ => fun a b c d r => by kernel_rfl
  | 26, _ => fun a b c d r => by kernel_rfl
  | 27, _ => fun a b c d r => by kernel_rfl
  | 28, _ => fun a b c d r => by kernel_rfl
  | 29, _ => fun a b c d r => by kernel_rfl
  | k + 30, h => by omega
theorem transfer_not (i : Ins) (r : Rg) (hb : i.byte = true) (hv : r.good i = false) : runS Try.prog Tp 20 20 [tIns.enc i, tR.enc r] = some (Rs.two.enc (Rg.zero, false)) := by
  have hh : (Vm.runT Try.prog (hkP Try.prog) (tabK Tp) 20 20 [tIns.enc i, tR.enc r] heap0).follow [false, true, true, true, true] =
    some (conj [i.byte, !r.good i], Rs.two.enc (Rg.zero, false)) := by kernel_rfl
  exact follow_eval hh (by simp [conj, hb, hv])
theorem c_Transfer : C 20 (fn2 tIns tR Rs.two transferT) := fn2_ok okay Tp_ok fun i r x hx => ⟨20, by
  unfold transferT at hx
  rw [eval_node] at hx
  by_cases hb : (i.byte && rngB r 32) = true
  · rw [if_pos hb] at hx
    cases hx
    rw [Bool.and_eq_true] at hb
    cases hv : r.good i with
    | false =>
      rw [transfer_not i r hb.1 hv]
      unfold Rg.transfer trV
      rw [hv]; rfl
    | true =>
      have hs := Ins.small (Rg.ok_of_good hv).2
      obtain ⟨op, a, b, c, d⟩ := i
      have h0 := hb.1
      simp only [Ins.byte, Bool.and_eq_true, decide_eq_true_eq] at h0
      obtain ⟨k, rfl⟩ := Int.eq_ofNat_of_zero_le h0.1
      have hk : k < 30 := by have := hs.op; simp only at this; omega
      refine (transfer_lit k hk a b c d r).trans ?_
      rw [trV_map _ _ (rngB_iff.1 hb.2)]
      rfl
  · rw [if_neg hb] at hx; cases hx⟩
end Go.Proofs.Ytdjippdfohlpkaa
