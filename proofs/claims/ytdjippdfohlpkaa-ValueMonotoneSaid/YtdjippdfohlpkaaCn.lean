/- The contract of interval.Apply. -/
import Derived.Test.YtdjippdfohlpkaaP2
import Derived.Test.YtdjippdfohlpkaaCh
namespace Go.Proofs.Ytdjippdfohlpkaa
open Go Go.Vm
set_option maxRecDepth 100000

noncomputable def Tc : Tab := (69, inl Try.prog ((96, inl Try.prog T1 20 96) :: (97, inl Try.prog [] 20 97) ::
  (70, inl Try.prog [] 20 70) :: (71, inl Try.prog [] 20 71) :: (72, inl Try.prog [] 20 72) :: T1) 20 69) ::
  (96, inl Try.prog T1 20 96) :: T2
noncomputable def Tt : Tab := (101, inl Try.prog T1 20 101) :: Tc
noncomputable def Tm : Tab := (98, inl Try.prog [] 40 98) :: Tt
noncomputable def Tw : Tab := [(95, inl Try.prog [(104, inl Try.prog [] 20 104)] 20 95)]
noncomputable def Tx : Tab := (73, inl Try.prog Tc 20 73) :: (74, inl Try.prog T1 20 74) :: (75, inl Try.prog T1 20 75) ::
  (76, inl Try.prog Tm 20 76) :: (77, inl Try.prog Tm 20 77) :: (78, inl Try.prog Tc 20 78) ::
  (79, inl Try.prog T1 20 79) :: (80, inl Try.prog Tt 20 80) :: (68, inl Try.prog Tw 20 68) :: Tt
theorem I_ok {t : Tab} (h : TOK t) (k f : Nat) : C f (inl Try.prog t k f) := inl_ok okay h k f
theorem Tc_ok : TOK Tc := tab_cons (I_ok (tab_cons (I_ok T1_ok _ _) (tab_cons (I_ok tab_nil _ _) (tab_cons (I_ok tab_nil _ _) (tab_cons (I_ok tab_nil _ _) (tab_cons (I_ok tab_nil _ _) T1_ok))))) _ _) (tab_cons (I_ok T1_ok _ _) T2_ok)
theorem Tt_ok : TOK Tt := tab_cons (I_ok T1_ok _ _) Tc_ok
theorem Tm_ok : TOK Tm := tab_cons (I_ok tab_nil _ _) Tt_ok
theorem Tw_ok : TOK Tw := tab_cons (I_ok (tab_cons (I_ok tab_nil _ _) tab_nil) _ _) tab_nil
theorem Tx_ok : TOK Tx := tab_cons (I_ok Tc_ok _ _) (tab_cons (I_ok T1_ok _ _) (tab_cons (I_ok T1_ok _ _) (tab_cons (I_ok Tm_ok _ _) (tab_cons (I_ok Tm_ok _ _) (tab_cons (I_ok Tc_ok _ _) (tab_cons (I_ok T1_ok _ _) (tab_cons (I_ok Tt_ok _ _) (tab_cons (I_ok Tw_ok _ _) Tt_ok))))))))
theorem app_6 (x y : I) : runS Try.prog Tx 40 49 [.int .u8 6, tI.enc x, tI.enc y] = applyV (fun z => some (tI.enc z)) none 6 x y := by kernel_rfl
theorem app_7 (x y : I) : runS Try.prog Tx 40 49 [.int .u8 7, tI.enc x, tI.enc y] = applyV (fun z => some (tI.enc z)) none 7 x y := by kernel_rfl
theorem app_8 (x y : I) : runS Try.prog Tx 40 49 [.int .u8 8, tI.enc x, tI.enc y] = applyV (fun z => some (tI.enc z)) none 8 x y := by kernel_rfl
theorem app_9 (x y : I) : runS Try.prog Tx 40 49 [.int .u8 9, tI.enc x, tI.enc y] = applyV (fun z => some (tI.enc z)) none 9 x y := by kernel_rfl
theorem app_10 (x y : I) : runS Try.prog Tx 40 49 [.int .u8 10, tI.enc x, tI.enc y] = applyV (fun z => some (tI.enc z)) none 10 x y := by kernel_rfl
theorem app_11 (x y : I) : runS Try.prog Tx 40 49 [.int .u8 11, tI.enc x, tI.enc y] = applyV (fun z => some (tI.enc z)) none 11 x y := by kernel_rfl
theorem app_12 (x y : I) : runS Try.prog Tx 40 49 [.int .u8 12, tI.enc x, tI.enc y] = applyV (fun z => some (tI.enc z)) none 12 x y := by kernel_rfl
theorem app_13 (x y : I) : runS Try.prog Tx 40 49 [.int .u8 13, tI.enc x, tI.enc y] = applyV (fun z => some (tI.enc z)) none 13 x y := by kernel_rfl
theorem app_14 (x y : I) : runS Try.prog Tx 40 49 [.int .u8 14, tI.enc x, tI.enc y] = applyV (fun z => some (tI.enc z)) none 14 x y := by kernel_rfl
theorem app_15 (x y : I) : runS Try.prog Tx 40 49 [.int .u8 15, tI.enc x, tI.enc y] = applyV (fun z => some (tI.enc z)) none 15 x y := by kernel_rfl
theorem app_16 (x y : I) : runS Try.prog Tx 40 49 [.int .u8 16, tI.enc x, tI.enc y] = applyV (fun z => some (tI.enc z)) none 16 x y := by kernel_rfl
theorem app_18 (x y : I) : runS Try.prog Tx 40 49 [.int .u8 18, tI.enc x, tI.enc y] = applyV (fun z => some (tI.enc z)) none 18 x y := by kernel_rfl
theorem app_all (x y : I) : ∀ k ∈ applyOps, runS Try.prog Tx 40 49 [.int .u8 (k : Int), tI.enc x, tI.enc y] = applyV (fun z => some (tI.enc z)) none k x y := by
  intro k hk
  simp only [applyOps, List.mem_cons, List.not_mem_nil, or_false] at hk
  rcases hk with rfl | rfl | rfl | rfl | rfl | rfl | rfl | rfl | rfl | rfl | rfl | rfl
  · exact app_6 x y
  · exact app_7 x y
  · exact app_8 x y
  · exact app_9 x y
  · exact app_10 x y
  · exact app_11 x y
  · exact app_12 x y
  · exact app_13 x y
  · exact app_14 x y
  · exact app_15 x y
  · exact app_16 x y
  · exact app_18 x y
theorem c_Apply : C 49 (fn3 (tInt .u8) tI tI tI.rs (applyT applyOps)) := fn3_ok okay Tx_ok fun op x y z hz => ⟨40, by
  obtain ⟨k, hk, rfl, hx, hy, rfl⟩ := applyT_inv hz
  refine (app_all x y k hk).trans ?_
  rw [applyV_map _ _ k hx hy]
  rfl⟩
end Go.Proofs.Ytdjippdfohlpkaa
