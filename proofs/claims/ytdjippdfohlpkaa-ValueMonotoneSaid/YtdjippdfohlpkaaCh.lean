/- Contracts of value.join, isa.IsBranch, isa.Target; the example of the chapter. -/
import Derived.Test.YtdjippdfohlpkaaP1
import Derived.Test.YtdjippdfohlpkaaW4
import Derived.Test.YtdjippdfohlpkaaCg
namespace Go.Proofs.Ytdjippdfohlpkaa
open Go Go.Vm
set_option maxRecDepth 100000

theorem c_join : C 66 (fn2 tR tR tR.rs fun a b => .leaf (a.join b)) := fn2_t okay TD_ok fun a b => ⟨20, by kernel_rfl⟩
theorem c_IsBranch : C 22 (fn1 (tInt .u8) tBool.rs fun op => .leaf (isBr op)) := fn1_t okay TD_ok fun op => ⟨20, by
  have h : runS Try.prog TD 20 22 [(tInt .u8).enc op] = onB (decide (op ≥ 22)) (some (.bool (decide (op ≤ 24)))) (some (.bool false)) := by kernel_rfl
  exact h.trans (onB_map (fun x => some (Value.bool x)) _ _ _)⟩
noncomputable def TF : Tab := (66, fn2 tR tR tR.rs fun a b => .leaf (a.join b)) :: (22, fn1 (tInt .u8) tBool.rs fun op => .leaf (isBr op)) ::
  (19, fn1 (tInt .u32) rsD fun w => .leaf (dcd w)) :: TD
theorem TF_ok : TOK TF := tab_cons c_join (tab_cons c_IsBranch (tab_cons c_Decode TD_ok))
theorem c_Target : C 92 (fn2 tIns (tInt .i64) rsT fun i pc => .leaf (target i pc)) := fn2_t okay TF_ok fun i pc => ⟨20, by
  have h : runS Try.prog TF 20 92 [tIns.enc i, (tInt .i64).enc pc] = onB (!isBr i.op) (some (rsT.enc (0, false))) (some (rsT.enc (IntKind.i64.wrap (IntKind.i64.wrap (pc + 1) + i.imm), true))) := by kernel_rfl
  rw [h]; unfold target
  cases isBr i.op <;> rfl⟩
noncomputable def TG : Tab := (92, fn2 tIns (tInt .i64) rsT fun i pc => .leaf (target i pc)) :: TF
theorem TG_ok : TOK TG := tab_cons c_Target TF_ok
end Go.Proofs.Ytdjippdfohlpkaa
