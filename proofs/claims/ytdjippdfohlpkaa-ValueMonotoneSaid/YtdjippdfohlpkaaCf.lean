/- The contract of isa.Encode. -/
import Derived.Test.YtdjippdfohlpkaaP1
import Derived.Test.YtdjippdfohlpkaaCe
namespace Go.Proofs.Ytdjippdfohlpkaa
open Go Go.Vm
set_option maxRecDepth 100000

noncomputable def T5 : Tab := (32, fn1 (tInt .u8) rsV findT) :: (13, fn3 tIns tR tBool Rs.two refineT) :: T4
theorem T5_ok : TOK T5 := tab_cons c_find (tab_cons c_Refine T4_ok)
noncomputable def TE : Tab := (48, inl Try.prog [] 20 48) :: (33, inl Try.prog [] 20 33) :: T5
theorem TE_ok : TOK TE := tab_cons (inl_ok okay tab_nil _ _) (tab_cons (inl_ok okay tab_nil _ _) T5_ok)
theorem encode_lit : ∀ k : Nat, k < 30 → ∀ a b c d : Int, runS Try.prog TE 20 35 [tIns.enc ⟨(k : Int), a, b, c, d⟩] = some (rsE.enc (Ins.enc ⟨(k : Int), a, b, c, d⟩))
  | 0, _ => fun a b c d => by
    have h : runS Try.prog TE 20 35 [tIns.enc ⟨0, a, b, c, d⟩] = onB (!Ins.valid ⟨0, a, b, c, d⟩) (some (rsE.enc (0, 3))) (some (rsE.enc (encW [] ⟨0, a, b, c, d⟩, 0))) := by kernel_rfl
    exact h.trans (onB_map (fun x => some (rsE.enc x)) _ _ _)
  | 1, _ => fun a b c d => by
    have h : runS Try.prog TE 20 35 [tIns.enc ⟨1, a, b, c, d⟩] = onB (!Ins.valid ⟨1, a, b, c, d⟩) (some (rsE.enc (0, 3))) (some (rsE.enc (encW [] ⟨1, a, b, c, d⟩, 0))) := by kernel_rfl
    exact h.trans (onB_map (fun x => some (rsE.enc x)) _ _ _)
  | 2, _ => fun a b c d => by
    have h : runS Try.prog TE 20 35 [tIns.enc ⟨2, a, b, c, d⟩] = onB (!Ins.valid ⟨2, a, b, c, d⟩) (some (rsE.enc (0, 3))) (some (rsE.enc (encW [0, 1, 2] ⟨2, a, b, c, d⟩, 0))) := by kernel_rfl
    exact h.trans (onB_map (fun x => some (rsE.enc x)) _ _ _)
  | 3, _ => fun a b c d => by
    have h : runS Try.prog TE 20 35 [tIns.enc ⟨3, a, b, c, d⟩] = onB (!Ins.valid ⟨3, a, b, c, d⟩) (some (rsE.enc (0, 3))) (some (rsE.enc (encW [0, 1, 2] ⟨3, a, b, c, d⟩, 0))) := by kernel_rfl
    exact h.trans (onB_map (fun x => some (rsE.enc x)) _ _ _)
  | 4, _ => fun a b c d => by
    have h : runS Try.prog TE 20 35 [tIns.enc ⟨4, a, b, c, d⟩] = onB (!Ins.valid ⟨4, a, b, c, d⟩) (some (rsE.enc (0, 3))) (some (rsE.enc (encW [0, 1, 2] ⟨4, a, b, c, d⟩, 0))) := by kernel_rfl
    exact h.trans (onB_map (fun x => some (rsE.enc x)) _ _ _)
  | 5, _ => fun a b c d => by
    have h : runS Try.prog TE 20 35 [tIns.enc ⟨5, a, b, c, d⟩] = onB (!Ins.valid ⟨5, a, b, c, d⟩) (some (rsE.enc (0, 3))) (some (rsE.enc (encW [0, 1, 2] ⟨5, a, b, c, d⟩, 0))) := by kernel_rfl
    exact h.trans (onB_map (fun x => some (rsE.enc x)) _ _ _)
  | 6, _ => fun a b c d => by
    have h : runS Try.prog TE 20 35 [tIns.enc ⟨6, a, b, c, d⟩] = onB (!Ins.valid ⟨6, a, b, c, d⟩) (some (rsE.enc (0, 3))) (some (rsE.enc (encW [0, 1, 2] ⟨6, a, b, c, d⟩, 0))) := by kernel_rfl
    exact h.trans (onB_map (fun x => some (rsE.enc x)) _ _ _)
  | 7, _ => fun a b c d => by
    have h : runS Try.prog TE 20 35 [tIns.enc ⟨7, a, b, c, d⟩] = onB (!Ins.valid ⟨7, a, b, c, d⟩) (some (rsE.enc (0, 3))) (some (rsE.enc (encW [0, 1, 2] ⟨7, a, b, c, d⟩, 0))) := by kernel_rfl
    exact h.trans (onB_map (fun x => some (rsE.enc x)) _ _ _)
  | 8, _ => fun a b c d => by
    have h : runS Try.prog TE 20 35 [tIns.enc ⟨8, a, b, c, d⟩] = onB (!Ins.valid ⟨8, a, b, c, d⟩) (some (rsE.enc (0, 3))) (some (rsE.enc (encW [0, 1, 2] ⟨8, a, b, c, d⟩, 0))) := by kernel_rfl
    exact h.trans (onB_map (fun x => some (rsE.enc x)) _ _ _)
  | 9, _ => fun a b c d => by
    have h : runS Try.prog TE 20 35 [tIns.enc ⟨9, a, b, c, d⟩] = onB (!Ins.valid ⟨9, a, b, c, d⟩) (some (rsE.enc (0, 3))) (some (rsE.enc (encW [0, 1, 2] ⟨9, a, b, c, d⟩, 0))) := by kernel_rfl
    exact h.trans (onB_map (fun x => some (rsE.enc x)) _ _ _)
  | 10, _ => fun a b c d => by
    have h : runS Try.prog TE 20 35 [tIns.enc ⟨10, a, b, c, d⟩] = onB (!Ins.valid ⟨10, a, b, c, d⟩) (some (rsE.enc (0, 3))) (some (rsE.enc (encW [0, 1, 2] ⟨10, a, b, c, d⟩, 0))) := by kernel_rfl
    exact h.trans (onB_map (fun x => some (rsE.enc x)) _ _ _)
  | 11, _ => fun a b c d => by
    have h : runS Try.prog TE 20 35 [tIns.enc ⟨11, a, b, c, d⟩] = onB (!Ins.valid ⟨11, a, b, c, d⟩) (some (rsE.enc (0, 3))) (some (rsE.enc (encW [0, 1, 2] ⟨11, a, b, c, d⟩, 0))) := by kernel_rfl
    exact h.trans (onB_map (fun x => some (rsE.enc x)) _ _ _)
  | 12, _ => fun a b c d => by
    have h : runS Try.prog TE 20 35 [tIns.enc ⟨12, a, b, c, d⟩] = onB (!Ins.valid ⟨12, a, b, c, d⟩) (some (rsE.enc (0, 3))) (some (rsE.enc (encW [0, 1, 2] ⟨12, a, b, c, d⟩, 0))) := by kernel_rfl
    exact h.trans (onB_map (fun x => some (rsE.enc x)) _ _ _)
  | 13, _ => fun a b c d => by
    have h : runS Try.prog TE 20 35 [tIns.enc ⟨13, a, b, c, d⟩] = onB (!Ins.valid ⟨13, a, b, c, d⟩) (some (rsE.enc (0, 3))) (some (rsE.enc (encW [0, 1, 2] ⟨13, a, b, c, d⟩, 0))) := by kernel_rfl
    exact h.trans (onB_map (fun x => some (rsE.enc x)) _ _ _)
  | 14, _ => fun a b c d => by
    have h : runS Try.prog TE 20 35 [tIns.enc ⟨14, a, b, c, d⟩] = onB (!Ins.valid ⟨14, a, b, c, d⟩) (some (rsE.enc (0, 3))) (some (rsE.enc (encW [0, 3] ⟨14, a, b, c, d⟩, 0))) := by kernel_rfl
    exact h.trans (onB_map (fun x => some (rsE.enc x)) _ _ _)
  | 15, _ => fun a b c d => by
    have h : runS Try.prog TE 20 35 [tIns.enc ⟨15, a, b, c, d⟩] = onB (!Ins.valid ⟨15, a, b, c, d⟩) (some (rsE.enc (0, 3))) (some (rsE.enc (encW [0, 1, 3] ⟨15, a, b, c, d⟩, 0))) := by kernel_rfl
    exact h.trans (onB_map (fun x => some (rsE.enc x)) _ _ _)
  | 16, _ => fun a b c d => by
    have h : runS Try.prog TE 20 35 [tIns.enc ⟨16, a, b, c, d⟩] = onB (!Ins.valid ⟨16, a, b, c, d⟩) (some (rsE.enc (0, 3))) (some (rsE.enc (encW [0, 1, 3] ⟨16, a, b, c, d⟩, 0))) := by kernel_rfl
    exact h.trans (onB_map (fun x => some (rsE.enc x)) _ _ _)
  | 17, _ => fun a b c d => by
    have h : runS Try.prog TE 20 35 [tIns.enc ⟨17, a, b, c, d⟩] = onB (!Ins.valid ⟨17, a, b, c, d⟩) (some (rsE.enc (0, 3))) (some (rsE.enc (encW [0, 1, 3] ⟨17, a, b, c, d⟩, 0))) := by kernel_rfl
    exact h.trans (onB_map (fun x => some (rsE.enc x)) _ _ _)
  | 18, _ => fun a b c d => by
    have h : runS Try.prog TE 20 35 [tIns.enc ⟨18, a, b, c, d⟩] = onB (!Ins.valid ⟨18, a, b, c, d⟩) (some (rsE.enc (0, 3))) (some (rsE.enc (encW [0, 1, 3] ⟨18, a, b, c, d⟩, 0))) := by kernel_rfl
    exact h.trans (onB_map (fun x => some (rsE.enc x)) _ _ _)
  | 19, _ => fun a b c d => by
    have h : runS Try.prog TE 20 35 [tIns.enc ⟨19, a, b, c, d⟩] = onB (!Ins.valid ⟨19, a, b, c, d⟩) (some (rsE.enc (0, 3))) (some (rsE.enc (encW [0, 1, 3] ⟨19, a, b, c, d⟩, 0))) := by kernel_rfl
    exact h.trans (onB_map (fun x => some (rsE.enc x)) _ _ _)
  | 20, _ => fun a b c d => by
    have h : runS Try.prog TE 20 35 [tIns.enc ⟨20, a, b, c, d⟩] = onB (!Ins.valid ⟨20, a, b, c, d⟩) (some (rsE.enc (0, 3))) (some (rsE.enc (encW [0, 1, 3] ⟨20, a, b, c, d⟩, 0))) := by kernel_rfl
    exact h.trans (onB_map (fun x => some (rsE.enc x)) _ _ _)
  | 21, _ => fun a b c d => by
    have h : runS Try.prog TE 20 35 [tIns.enc ⟨21, a, b, c, d⟩] = onB (!Ins.valid ⟨21, a, b, c, d⟩) (some (rsE.enc (0, 3))) (some (rsE.enc (encW [0, 1, 3] ⟨21, a, b, c, d⟩, 0))) := by kernel_rfl
    exact h.trans (onB_map (fun x => some (rsE.enc x)) _ _ _)
  | 22, _ => fun a b c d => by
    have h : runS Try.prog TE 20 35 [tIns.enc ⟨22, a, b, c, d⟩] = onB (!Ins.valid ⟨22, a, b, c, d⟩) (some (rsE.enc (0, 3))) (some (rsE.enc (encW [0, 3] ⟨22, a, b, c, d⟩, 0))) := by kernel_rfl
    exact h.trans (onB_map (fun x => some (rsE.enc x)) _ _ _)
  | 23, _ => fun a b c d => by
    have h : runS Try.prog TE 20 35 [tIns.enc ⟨23, a, b, c, d⟩] = onB (!Ins.valid ⟨23, a, b, c, d⟩) (some (rsE.enc (0, 3))) (some (rsE.enc (encW [0, 3] ⟨23, a, b, c, d⟩, 0))) := by kernel_rfl
    exact h.trans (onB_map (fun x => some (rsE.enc x)) _ _ _)
  | 24, _ => fun a b c d => by
    have h : runS Try.prog TE 20 35 [tIns.enc ⟨24, a, b, c, d⟩] = onB (!Ins.valid ⟨24, a, b, c, d⟩) (some (rsE.enc (0, 3))) (some (rsE.enc (encW [3] ⟨24, a, b, c, d⟩, 0))) := by kernel_rfl
    exact h.trans (onB_map (fun x => some (rsE.enc x)) _ _ _)
  | 25, _ => fun a b c d => by
    have h : runS Try.prog TE 20 35 [tIns.enc ⟨25, a, b, c, d⟩] = onB (!Ins.valid ⟨25, a, b, c, d⟩) (some (rsE.enc (0, 3))) (some (rsE.enc (encW [0, 3] ⟨25, a, b, c, d⟩, 0))) := by kernel_rfl
    exact h.trans (onB_map (fun x => some (rsE.enc x)) _ _ _)
  | 26, _ => fun a b c d => by
    have h : runS Try.prog TE 20 35 [tIns.enc ⟨26, a, b, c, d⟩] = onB (!Ins.valid ⟨26, a, b, c, d⟩) (some (rsE.enc (0, 3))) (some (rsE.enc (encW [0, 3] ⟨26, a, b, c, d⟩, 0))) := by kernel_rfl
    exact h.trans (onB_map (fun x => some (rsE.enc x)) _ _ _)
  | 27, _ => fun a b c d => by
    have h : runS Try.prog TE 20 35 [tIns.enc ⟨27, a, b, c, d⟩] = onB (!Ins.valid ⟨27, a, b, c, d⟩) (some (rsE.enc (0, 3))) (some (rsE.enc (encW [0, 3] ⟨27, a, b, c, d⟩, 0))) := by kernel_rfl
    exact h.trans (onB_map (fun x => some (rsE.enc x)) _ _ _)
  | 28, _ => fun a b c d => by
    have h : runS Try.prog TE 20 35 [tIns.enc ⟨28, a, b, c, d⟩] = onB (!Ins.valid ⟨28, a, b, c, d⟩) (some (rsE.enc (0, 3))) (some (rsE.enc (encW [3] ⟨28, a, b, c, d⟩, 0))) := by kernel_rfl
    exact h.trans (onB_map (fun x => some (rsE.enc x)) _ _ _)
  | 29, _ => fun a b c d => by
    have h : runS Try.prog TE 20 35 [tIns.enc ⟨29, a, b, c, d⟩] = onB (!Ins.valid ⟨29, a, b, c, d⟩) (some (rsE.enc (0, 3))) (some (rsE.enc (encW [3] ⟨29, a, b, c, d⟩, 0))) := by kernel_rfl
    exact h.trans (onB_map (fun x => some (rsE.enc x)) _ _ _)
  | k + 30, h => by omega
theorem encode_not (i : Ins) (hb : i.byte = true) (hv : i.valid = false) : runS Try.prog TE 20 35 [tIns.enc i] = some (rsE.enc (0, 3)) := by
  have hh : (Vm.runT Try.prog (hkP Try.prog) (tabK TE) 20 35 [tIns.enc i] heap0).follow [false, true, true] =
    some (i.byte && (!i.valid && true), rsE.enc (0, 3)) := by kernel_rfl
  exact follow_eval hh (by simp [hb, hv])
theorem c_Encode : C 35 (fn1 tIns rsE encT) := fn1_ok okay TE_ok fun i r hr => ⟨20, by
  unfold encT at hr
  rw [eval_node] at hr
  by_cases hb : i.byte = true
  · rw [if_pos hb] at hr
    cases hr
    cases hv : i.valid with
    | false =>
      have e : i.enc = (0, 3) := by simp [Ins.enc, hv, onB]
      rw [e]; exact encode_not i hb hv
    | true =>
      have hs := Ins.small hv
      obtain ⟨op, a, b, c, d⟩ := i
      simp only [Ins.byte, Bool.and_eq_true, decide_eq_true_eq] at hb
      obtain ⟨k, rfl⟩ := Int.eq_ofNat_of_zero_le hb.1
      exact encode_lit k (by have := hs.op; simp only at this; omega) a b c d
  · rw [if_neg hb] at hr; cases hr⟩
end Go.Proofs.Ytdjippdfohlpkaa
