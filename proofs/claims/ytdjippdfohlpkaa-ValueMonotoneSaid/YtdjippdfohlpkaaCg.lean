/- The contract of isa.Decode. -/
import Derived.Test.YtdjippdfohlpkaaP1
import Derived.Test.YtdjippdfohlpkaaCf
namespace Go.Proofs.Ytdjippdfohlpkaa
open Go Go.Vm
set_option maxRecDepth 100000

noncomputable def TD : Tab := (35, fn1 tIns rsE encT) :: TE
theorem TD_ok : TOK TD := tab_cons c_Encode TE_ok
theorem c_Decode : C 19 (fn1 (tInt .u32) rsD fun w => .leaf (dcd w)) := fn1_t okay TD_ok fun w => ⟨20, by
  have h : runS Try.prog TD 20 19 [(tInt .u32).enc w] = decV (fun x => some (rsD.enc x)) none w 0 fmtL := by kernel_rfl
  rw [h, decV_eq _ _ w fmtL 0 rfl (fun k hk => by omega) (fun k _ => rfl)]⟩
end Go.Proofs.Ytdjippdfohlpkaa
