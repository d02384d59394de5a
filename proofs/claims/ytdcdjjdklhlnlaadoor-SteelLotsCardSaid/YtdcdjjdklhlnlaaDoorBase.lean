/- The abstract layer over this dump: its context. No condition. -/
import Derived.Test.YtdcdjjdklhlnlaaDoorAltE
import Derived.Test.YtdcdjjdklhlnlaaDoorProg
import Derived.KernelRfl
namespace Go.Proofs.YtdcdjjdklhlnlaaDoor
open Go Go.RowKit Go.Alt

noncomputable def X : Cx := { P := Tryd.prog, G := fun g => if g = 0 then some [.int .i64 1, .int .i64 0, .int .i64 (-1), .int .i64 0] else none }
theorem X_know : ∀ μ, X.K μ := fun _ => trivial
theorem X_mixed : X.P.follows .mixedOrders = true := by kernel_rfl
noncomputable def wk (N : Nat) (E : List Ent) (hE : EntsOk X E) (sh : List (Nat × Scr)) (hint : List (Nat × Hint)) : Wk := { X := X, sh := shL sh, hint := hintL .tip hint, N := N, Γ := tabL E, know := X_know, tab := tabL_ok hE, mixed := X_mixed }
/-- A pure function, from a walk. -/
theorem pureX {f : FuncId} {fn : Func} {args : List V} {r : V} (hf : Tryd.prog.funcs[f]? = some fn) (hb : fn.body = some (cd fn)) (hname : (fn.name == "runtime.NumGoroutine") = false) (hn : Nat.ble args.length fn.ntmps = true)
    (hlow : LowL 0 args) (hr : Low 0 r) (h : AW X fn.ntmps (qpure X fn.results.toList r) [.code (cd fn)] (entryA 0 args) []) : PureCall X f args r := pure_walk X_know hf hb hname hn hlow hr h
end Go.Proofs.YtdcdjjdklhlnlaaDoor
