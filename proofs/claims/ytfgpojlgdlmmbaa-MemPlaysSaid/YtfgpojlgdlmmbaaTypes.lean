/- The element types of the slices of this seat. -/
import Derived.Test.YtfgpojlgdlmmbaaProg
import Derived.Test.YtfgpojlgdlmmbaaVoc
import Derived.KernelRfl
namespace Go.Proofs.Ytfgpojlgdlmmbaa
set_option linter.unusedSimpArgs false
set_option linter.unusedVariables false
set_option linter.unnecessarySimpa false
theorem elem_i8 : ElemT Try.prog 32 38 1 1 := elemT_of (z := .int .i8 0) Try.underlying32 (by kernel_rfl) rfl (by omega)
end Go.Proofs.Ytfgpojlgdlmmbaa
