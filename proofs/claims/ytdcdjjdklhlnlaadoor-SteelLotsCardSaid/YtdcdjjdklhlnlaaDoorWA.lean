/- Walks: the conditions on the data that they leave, worked out by the kernel. Printed by a program. No condition. -/
import Derived.Test.YtdcdjjdklhlnlaaDoorBase
namespace Go.Proofs.YtdcdjjdklhlnlaaDoor
open Go Go.RowKit Go.Alt
set_option maxRecDepth 100000
theorem w_within (n lo hi : Int) (r : V) (h : (decide (lo ≤ n) = true → decide (lo ≤ n) = true) ∧ (decide (lo ≤ n) = true → decide (lo ≤ n) = true) ∧ (decide (lo ≤ n) = true → decide (lo ≤ n) = true) ∧ VLe r (V.bool (if decide (lo ≤ n) = true then decide (n ≤ hi) else false))) :
    AW X Tryd.f21.ntmps (qpure X Tryd.f21.results.toList r) [.code (cd Tryd.f21)] (entryA 0 [.int .i64 n, .int .i64 lo, .int .i64 hi]) [] := by
  have h2 : walk (wk Tryd.f21.ntmps [] trivial [] []) Tryd.f21.results.toList (qpure X Tryd.f21.results.toList r) 400 [.code (cd Tryd.f21)] (entryA 0 [.int .i64 n, .int .i64 lo, .int .i64 hi]) [] := by
    refine Eq.mp ?_ h
    kernel_rfl
  exact Eq.mp (by kernel_rfl) (walk_sound _ _ _ _ h2)
theorem w_bwithin (n lo hi : Int) (r : V) (h : (decide (lo ≤ n) = true → decide (lo ≤ n) = true) ∧ (decide (lo ≤ n) = true → decide (lo ≤ n) = true) ∧ (decide (lo ≤ n) = true → decide (lo ≤ n) = true) ∧ VLe r (V.bool (if decide (lo ≤ n) = true then decide (n ≤ hi) else false))) :
    AW X Tryd.f26.ntmps (qpure X Tryd.f26.results.toList r) [.code (cd Tryd.f26)] (entryA 0 [.int .i64 n, .int .i64 lo, .int .i64 hi]) [] := by
  have h2 : walk (wk Tryd.f26.ntmps [] trivial [] []) Tryd.f26.results.toList (qpure X Tryd.f26.results.toList r) 400 [.code (cd Tryd.f26)] (entryA 0 [.int .i64 n, .int .i64 lo, .int .i64 hi]) [] := by
    refine Eq.mp ?_ h
    kernel_rfl
  exact Eq.mp (by kernel_rfl) (walk_sound _ _ _ _ h2)
theorem w_unless (b : Bool) (e : Int) (r : V) (h : (b = true → VLe r (V.int .i64 (0 : Int))) ∧ (b = false → VLe r (V.int .i64 e))) :
    AW X Tryd.f19.ntmps (qpure X Tryd.f19.results.toList r) [.code (cd Tryd.f19)] (entryA 0 [.bool b, .int .i64 e]) [] := by
  have h2 : walk (wk Tryd.f19.ntmps [] trivial [] []) Tryd.f19.results.toList (qpure X Tryd.f19.results.toList r) 400 [.code (cd Tryd.f19)] (entryA 0 [.bool b, .int .i64 e]) [] := by
    refine Eq.mp ?_ h
    kernel_rfl
  exact Eq.mp (by kernel_rfl) (walk_sound _ _ _ _ h2)
theorem w_first (o : Alt.Own) (es : List (List V)) (r : V) (h : AW X (15 : Nat) (qpure X Tryd.f17.results.toList r) (kk Tryd.f17 (0 : Nat)) [((7 : Nat), V.int .i64 (0 : Int)), ((6 : Nat), V.int .i64 (↑es.length : Int)), ((5 : Nat), V.slc o es), ((2 : Nat), V.int .i64 (0 : Int))] []) :
    AW X Tryd.f17.ntmps (qpure X Tryd.f17.results.toList r) [.code (cd Tryd.f17)] (entryA 0 [.slc o es]) [] := by
  have h2 : walk (wk Tryd.f17.ntmps [] trivial [] []) Tryd.f17.results.toList (qpure X Tryd.f17.results.toList r) 400 [.code (cd Tryd.f17)] (entryA 0 [.slc o es]) [] := by
    refine Eq.mp ?_ h
    kernel_rfl
  exact Eq.mp (by kernel_rfl) (walk_sound _ _ _ _ h2)
theorem w_first1 (o : Alt.Own) (es : List (List V)) (i n x e2 : Int) (q : List V → LH → Prop) (r : V) (h : (decide (i < n) = true → (0 : Int) ≤ i ∧ i < (↑es.length : Int) ∧ (es.getD i.toNat []).length = (1 : Nat) ∧ V.pin (es.getD i.toNat []) = V.pin [V.int .i64 x] ∧ ((x != (0 : Int)) = true → VLe r (V.int .i64 x)) ∧ ((x != (0 : Int)) = false → q [V.int .i64 (IntKind.i64.wrap (i + (1 : Int))), V.int .i64 n, V.slc o es, V.int .i64 e2] [])) ∧ (decide (i < n) = false → VLe r (V.int .i64 (0 : Int)))) :
    AW X Tryd.f17.ntmps (qpure X Tryd.f17.results.toList r) (kr (kk Tryd.f17 0) [7, 6, 5, 2] q) (List.zip [7, 6, 5, 2] [.int .i64 i, .int .i64 n, .slc o es, .int .i64 e2]) [] := by
  have h2 : walk (wk Tryd.f17.ntmps [] trivial [(9, .val (.pin [.int .i64 x]))] []) Tryd.f17.results.toList (qpure X Tryd.f17.results.toList r) 400 (kr (kk Tryd.f17 0) [7, 6, 5, 2] q) (List.zip [7, 6, 5, 2] [.int .i64 i, .int .i64 n, .slc o es, .int .i64 e2]) [] := by
    refine Eq.mp ?_ h
    kernel_rfl
  exact Eq.mp (by kernel_rfl) (walk_sound _ _ _ _ h2)
theorem w_floor (n d : Int) (r : V) (h : d ≠ (0 : Int) ∧ d ≠ (0 : Int) ∧ (decide (n.tmod d < (0 : Int)) = true → VLe r (V.int .i64 (IntKind.i64.wrap (IntKind.i64.wrap (n.tdiv d) - (1 : Int))))) ∧ (decide (n.tmod d < (0 : Int)) = false → VLe r (V.int .i64 (IntKind.i64.wrap (n.tdiv d))))) :
    AW X Tryd.f27.ntmps (qpure X Tryd.f27.results.toList r) [.code (cd Tryd.f27)] (entryA 0 [.int .i64 n, .int .i64 d]) [] := by
  have h2 : walk (wk Tryd.f27.ntmps [] trivial [] []) Tryd.f27.results.toList (qpure X Tryd.f27.results.toList r) 400 [.code (cd Tryd.f27)] (entryA 0 [.int .i64 n, .int .i64 d]) [] := by
    refine Eq.mp ?_ h
    kernel_rfl
  exact Eq.mp (by kernel_rfl) (walk_sound _ _ _ _ h2)
theorem w_sfloor (n : Int) (r : V) (h : (1000 : Int) ≠ (0 : Int) ∧ (1000 : Int) ≠ (0 : Int) ∧ (decide (n.tmod (1000 : Int) < (0 : Int)) = true → VLe r (V.int .i64 (IntKind.i64.wrap (IntKind.i64.wrap (n.tdiv (1000 : Int)) - (1 : Int))))) ∧ (decide (n.tmod (1000 : Int) < (0 : Int)) = false → VLe r (V.int .i64 (IntKind.i64.wrap (n.tdiv (1000 : Int)))))) :
    AW X Tryd.f23.ntmps (qpure X Tryd.f23.results.toList r) [.code (cd Tryd.f23)] (entryA 0 [.int .i64 n]) [] := by
  have h2 : walk (wk Tryd.f23.ntmps [] trivial [] []) Tryd.f23.results.toList (qpure X Tryd.f23.results.toList r) 400 [.code (cd Tryd.f23)] (entryA 0 [.int .i64 n]) [] := by
    refine Eq.mp ?_ h
    kernel_rfl
  exact Eq.mp (by kernel_rfl) (walk_sound _ _ _ _ h2)
end Go.Proofs.YtdcdjjdklhlnlaaDoor
