/- Contracts of law28's bad and inside. -/
import Derived.Test.YtdjippdfohlpkaaP1
import Derived.Test.YtdjippdfohlpkaaCh
namespace Go.Proofs.Ytdjippdfohlpkaa
open Go Go.Vm
set_option maxRecDepth 100000

theorem c_bad : C 10 (fn1 tR tBool.rs fun r => .leaf r.bad) := fn1_t okay T3_ok fun r => ⟨20, by
  have h : runS Try.prog T3 20 10 [tR.enc r] = scan (some (.bool true)) 16 0 r (some (.bool (no0 r))) := by kernel_rfl
  exact h.trans (scan_bool ..)⟩
theorem r_inside0 (s : Jb) (x : Rg) : (Vm.runT Try.prog (hkP Try.prog) (tabK []) 20 14 [s.enc, tR.enc x] heap0).eval = insV (fun b => some (.bool b)) s.reg x 0 16 := by kernel_rfl
theorem r_inside1 (s : Jb) (x : Rg) : (Vm.runT Try.prog (hkP Try.prog) (tabK []) 20 14 [s.enc, tR.enc x] Hd).eval = insV (fun b => some (.bool b)) s.reg x 0 16 := by kernel_rfl
theorem c_inside : C 14 insE := ro_ok okay tab_nil fun args H v H' hr => by
  unfold insE at hr
  split at hr
  · rename_i sv rv H
    split at hr
    · rename_i s hs
      split at hr
      · rename_i x hx
        cases hr
        obtain ⟨rfl, hp⟩ := Jb.dec_inv hs
        have := tR.inv hx
        subst this
        refine ⟨rfl, rfl, ?_⟩
        obtain ⟨n, ρ, a0, H0, h0, h1, h2⟩ := s.lr hp [tR.enc x] (by simp [tR.fl])
        refine ⟨n, ρ, _, H0, 20, h1, h2 H, ?_⟩
        rcases h0 with ⟨rfl, _⟩ | ⟨rfl, _⟩
        · rw [r_inside0, insV_map]; rfl
        · rw [r_inside1, insV_map]; rfl
      · cases hr
    · cases hr
  · cases hr
end Go.Proofs.Ytdjippdfohlpkaa
