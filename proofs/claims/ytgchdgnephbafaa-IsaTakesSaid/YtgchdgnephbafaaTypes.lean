/- The element types of the slices of this seat. -/
import Derived.Test.YtgchdgnephbafaaProg
import Derived.Test.YtgchdgnephbafaaVoc
import Derived.KernelRfl
namespace Go.Proofs.Ytgchdgnephbafaa
theorem elem_u8 : ElemT Try.prog 32 5 1 1 := elemT_of (z := .int .u8 0) Try.underlying32 (by kernel_rfl) rfl (by omega)
theorem elem_i64 : ElemT Try.prog 43 3 1 8 := elemT_of (z := .int .i64 0) Try.underlying43 (by kernel_rfl) rfl (by omega)
end Go.Proofs.Ytgchdgnephbafaa
