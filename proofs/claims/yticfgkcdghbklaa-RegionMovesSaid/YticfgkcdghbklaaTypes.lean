/- The element types of the slices of this seat. -/
import Derived.Test.YticfgkcdghbklaaProg
import Derived.Test.YticfgkcdghbklaaVoc
import Derived.KernelRfl
namespace Go.Proofs.Yticfgkcdghbklaa
theorem elem_u8 : ElemT Try.prog 22 5 1 1 := elemT_of (z := .int .u8 0) Try.underlying22 (by kernel_rfl) rfl (by omega)
theorem elem_i8 : ElemT Try.prog 33 47 1 1 := elemT_of (z := .int .i8 0) Try.underlying33 (by kernel_rfl) rfl (by omega)
end Go.Proofs.Yticfgkcdghbklaa
