/- The contract of value.Address. -/
import Derived.Test.YtdjippdfohlpkaaP2
import Derived.Test.YtdjippdfohlpkaaCp
namespace Go.Proofs.Ytdjippdfohlpkaa
open Go Go.Vm
set_option maxRecDepth 100000

noncomputable def Tq : Tab := (53, inl Try.prog [] 20 53) :: TG
theorem Tq_ok : TOK Tq := tab_cons (I_ok tab_nil _ _) TG_ok
theorem r_Address (i : Ins) (r : Rg) : runS Try.prog Tq 20 25 [tIns.enc i, tR.enc r] = adV (fun z => some (tI.enc z)) none i r := by kernel_rfl
theorem c_Address : C 25 (fn2 tIns tR tI.rs addressT) := fn2_ok okay Tq_ok fun i r x hx => ⟨20, by
  unfold addressT at hx
  rw [eval_node] at hx
  by_cases hb : i.byte = true
  · rw [if_pos hb] at hx
    cases hx
    show runS Try.prog Tq 20 25 [tIns.enc i, tR.enc r] = _
    rw [r_Address, adV_eq _ _ _ _ hb]
    rfl
  · rw [if_neg hb] at hx; cases hx⟩
end Go.Proofs.Ytdjippdfohlpkaa
