/- The one type of that name among errors. -/
import Derived.Test.YtjaoknpdomnnfaaDoorSt
import Derived.Stop.LaidErr
namespace Go.Proofs.YtjaoknpdomnnfaaDoor.Nm
open Go
theorem star : "*" ++ "errors.errorString" = "*errors.errorString" := by decide
theorem errRow (u : TypeId) (h : Tryd.prog.typeName? 3 u = some "*errors.errorString") : u = 149 :=
  typeName_ptr_named (nm := "errors.errorString") (by rw [star]; kernel_rfl) (by kernel_rfl) (by decide) u (by rw [star]; exact h)
end Go.Proofs.YtjaoknpdomnnfaaDoor.Nm
