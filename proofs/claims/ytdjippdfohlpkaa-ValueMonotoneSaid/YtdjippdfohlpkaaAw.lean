/- The example of the chapter holds. -/
import Derived.Test.YtdjippdfohlpkaaCh
namespace Go.Proofs.Ytdjippdfohlpkaa
open Go Go.Vm
set_option maxRecDepth 100000

theorem c_awake : C 9 (fn0 tBool.rs true) := callT_pure okay TG_ok 100 20 (by kernel_rfl)
end Go.Proofs.Ytdjippdfohlpkaa
