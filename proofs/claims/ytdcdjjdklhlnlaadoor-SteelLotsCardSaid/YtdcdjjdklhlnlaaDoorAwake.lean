/- The examples of the document hold: worked out by the interpreter. No condition. -/
import Derived.Test.YtdcdjjdklhlnlaaDoorBase
namespace Go.Proofs.YtdcdjjdklhlnlaaDoor
open Go Go.RowKit Go.Alt
set_option maxRecDepth 100000
noncomputable def mach : Mach := { X := X, Γ := fun _ _ => none, hints := fun _ _ => .tip, lf := 1000 }
theorem allNames : (Tryd.prog.funcs.toList.all fun fn => !(fn.name == "runtime.NumGoroutine")) = true := by kernel_rfl
theorem mach_ok : mach.Ok where
  tab := fun _ _ _ h => by cases h
  know := X_know
  mixed := X_mixed
  names := fun f fn h => by
    have h1 := List.all_eq_true.1 allNames fn (by
      have : X.P.funcs[f]? = some fn := h
      exact Array.mem_toList_iff.2 (Array.mem_of_getElem? this))
    simpa using h1
theorem cAwake : PureCall X 4 [] (.bool true) := pure_of_run mach_ok 40 (by kernel_rfl) (by kernel_rfl)
end Go.Proofs.YtdcdjjdklhlnlaaDoor
