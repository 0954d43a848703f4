/- law28's ValueMonotone: every run answers true. -/
import Derived.Test.YtdjippdfohlpkaaP3
import Derived.Test.YtdjippdfohlpkaaCq
import Derived.Test.YtdjippdfohlpkaaCm
import Derived.Test.YtdjippdfohlpkaaCi
import Derived.Test.YtdjippdfohlpkaaAw
namespace Go.Proofs.Ytdjippdfohlpkaa
open Go Go.Vm
set_option maxRecDepth 100000

noncomputable def TM : Tab := (9, fn0 tBool.rs true) :: (10, fn1 tR tBool.rs fun r => .leaf r.bad) :: (23, fn2 tI tI tBool.rs fun x y => .leaf (x.within y)) ::
  (20, fn2 tIns tR Rs.two transferT) :: (25, fn2 tIns tR tI.rs addressT) :: TG
theorem TM_ok : TOK TM := tab_cons c_awake (tab_cons c_bad (tab_cons c_Within (tab_cons c_Transfer (tab_cons c_Address TG_ok))))
theorem m_tt (i : Ins) (r m : Rg) (t : Bool) : (Vm.runT Try.prog (hkP Try.prog) (tabK TM) 20 6 [tIns.enc i, tR.enc r, tR.enc m, .bool t] heap0).follow (rl true [0, 1, 1, 1, 1, 2, 160, 2, 3, 1, 3, 1, 3, 1, 5, 2, 2, 2, 15, 2, 14, 2, 15, 2, 14, 2, 15, 2, 14, 2, 15, 2, 14, 2, 15, 2, 14, 2, 15, 2, 14, 2, 15, 2, 14, 2, 15, 2, 14, 2, 15, 2, 14, 2, 15, 2, 14, 2, 15, 2, 14, 2, 15, 2, 14, 2, 15, 2, 14, 2, 15, 2, 14, 2, 15, 2, 14, 2, 15, 2, 14, 4, 2, 1, 6]) = some (conj (monC i r m t true true), monL i r m) := by kernel_rfl
theorem m_tf (i : Ins) (r m : Rg) (t : Bool) : (Vm.runT Try.prog (hkP Try.prog) (tabK TM) 20 6 [tIns.enc i, tR.enc r, tR.enc m, .bool t] heap0).follow (rl true [0, 1, 1, 1, 1, 2, 160, 2, 3, 1, 3, 1, 3, 1, 5, 6, 15, 12, 15, 12, 15, 12, 15, 12, 15, 12, 15, 12, 15, 12, 15, 12, 15, 12, 15, 12, 15, 12, 15, 12, 15, 12, 15, 12, 15, 12, 15, 14, 2, 1, 6]) = some (conj (monC i r m t true false), monL i r m) := by kernel_rfl
theorem m_ft (i : Ins) (r m : Rg) (t : Bool) : (Vm.runT Try.prog (hkP Try.prog) (tabK TM) 20 6 [tIns.enc i, tR.enc r, tR.enc m, .bool t] heap0).follow (rl true [0, 1, 1, 1, 1, 2, 160, 2, 3, 1, 3, 1, 3, 1, 3, 4, 2, 2, 1, 10, 14, 2, 1, 10, 14, 2, 1, 10, 14, 2, 1, 10, 14, 2, 1, 10, 14, 2, 1, 10, 14, 2, 1, 10, 14, 2, 1, 10, 14, 2, 1, 10, 14, 2, 1, 10, 14, 2, 1, 10, 14, 2, 1, 10, 14, 2, 1, 10, 14, 2, 1, 10, 14, 2, 1, 10, 14, 2, 1, 10, 14, 4, 2, 1, 6]) = some (conj (monC i r m t false true), monL i r m) := by kernel_rfl
theorem m_ff (i : Ins) (r m : Rg) (t : Bool) : (Vm.runT Try.prog (hkP Try.prog) (tabK TM) 20 6 [tIns.enc i, tR.enc r, tR.enc m, .bool t] heap0).follow (rl true [0, 1, 1, 1, 1, 2, 160, 2, 3, 1, 3, 1, 3, 1, 3, 8, 1, 20, 1, 20, 1, 20, 1, 20, 1, 20, 1, 20, 1, 20, 1, 20, 1, 20, 1, 20, 1, 20, 1, 20, 1, 20, 1, 20, 1, 20, 1, 22, 2, 1, 6]) = some (conj (monC i r m t false false), monL i r m) := by kernel_rfl
theorem m_b1 (i : Ins) (r m : Rg) (t : Bool) : (Vm.runT Try.prog (hkP Try.prog) (tabK TM) 20 6 [tIns.enc i, tR.enc r, tR.enc m, .bool t] heap0).follow (rl true [0, 1, 4]) = some (conj [r.bad], .bool true) := by kernel_rfl
theorem m_b2 (i : Ins) (r m : Rg) (t : Bool) : (Vm.runT Try.prog (hkP Try.prog) (tabK TM) 20 6 [tIns.enc i, tR.enc r, tR.enc m, .bool t] heap0).follow (rl true [0, 1, 1, 1, 1, 1, 1]) = some (conj [!r.bad, m.bad], .bool true) := by kernel_rfl
theorem mono_run (i : Ins) (hb : i.byte = true) (r m : Rg) (rr : r.Rng) (mr : m.Rng) (t : Bool) : (Vm.runT Try.prog (hkP Try.prog) (tabK TM) 20 6 [tIns.enc i, tR.enc r, tR.enc m, .bool t] heap0).eval = some (.bool true) := by
  cases h1 : r.bad with
  | true => exact follow_eval (m_b1 i r m t) (by simp [conj, h1])
  | false =>
    cases h2 : m.bad with
    | true => exact follow_eval (m_b2 i r m t) (by simp [conj, h1, h2])
    | false =>
      obtain ⟨k1, k2⟩ := mon_all (t := t) hb rr mr (Rg.ok_of_bad h1) (Rg.ok_of_bad h2)
      cases h3 : (mA i r).2 <;> cases h4 : (mC i r t).2 <;> rw [h3, h4] at k1
      · exact (follow_eval (m_ff i r m t) k1).trans (congrArg some k2)
      · exact (follow_eval (m_ft i r m t) k1).trans (congrArg some k2)
      · exact (follow_eval (m_tf i r m t) k1).trans (congrArg some k2)
      · exact (follow_eval (m_tt i r m t) k1).trans (congrArg some k2)
end Go.Proofs.Ytdjippdfohlpkaa
