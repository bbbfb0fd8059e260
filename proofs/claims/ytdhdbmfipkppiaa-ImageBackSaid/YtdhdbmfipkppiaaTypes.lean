/- The element types of the slices of this seat. -/
import Derived.Test.YtdhdbmfipkppiaaProg
import Derived.Test.YtdhdbmfipkppiaaVoc
import Derived.KernelRfl
namespace Go.Proofs.Ytdhdbmfipkppiaa
set_option linter.unusedSimpArgs false
set_option linter.unusedVariables false
set_option linter.unnecessarySimpa false
theorem elem_u8 : ElemT Try.prog 29 5 1 1 := elemT_of (z := .int .u8 0) Try.underlying29 (by kernel_rfl) rfl (by omega)
theorem elem_i8 : ElemT Try.prog 37 125 1 1 := elemT_of (z := .int .i8 0) Try.underlying37 (by kernel_rfl) rfl (by omega)
theorem elem_i64 : ElemT Try.prog 24 3 1 8 := elemT_of (z := .int .i64 0) Try.underlying24 (by kernel_rfl) rfl (by omega)
end Go.Proofs.Ytdhdbmfipkppiaa
