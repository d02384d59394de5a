/- Walks: the conditions on the data that they leave, worked out by the kernel. Printed by a program. No condition. -/
import Derived.Test.YtdcdjjdklhlnlaaDoorCA
namespace Go.Proofs.YtdcdjjdklhlnlaaDoor
open Go Go.RowKit Go.Alt
set_option maxRecDepth 100000
theorem w_isKelvin (n : Int) (r : V) (h : VLe r (V.bool (decide ((1 : Int) ≤ n) && decide (n ≤ (3000 : Int))))) :
    AW X Tryd.f44.ntmps (qpure X Tryd.f44.results.toList r) [.code (cd Tryd.f44)] (entryA 0 [.int .i64 n]) [] := by
  have h2 : walk (wk Tryd.f44.ntmps tA oA [] []) Tryd.f44.results.toList (qpure X Tryd.f44.results.toList r) 400 [.code (cd Tryd.f44)] (entryA 0 [.int .i64 n]) [] := by
    refine Eq.mp ?_ h
    kernel_rfl
  exact Eq.mp (by kernel_rfl) (walk_sound _ _ _ _ h2)
theorem w_kelvinErr (n : Int) (r : V) (h : PureCall X 44 [V.int .i64 n] (V.bool (decide ((1 : Int) ≤ n) && decide (n ≤ (3000 : Int)))) ∧ VLe r (V.int .i64 (if (decide ((1 : Int) ≤ n) && decide (n ≤ (3000 : Int))) = true then (0 : Int) else (2 : Int)))) :
    AW X Tryd.f18.ntmps (qpure X Tryd.f18.results.toList r) [.code (cd Tryd.f18)] (entryA 0 [.int .i64 n]) [] := by
  have h2 : walk (wk Tryd.f18.ntmps tA oA [(4, .val (.bool (decide (1 ≤ n) && decide (n ≤ 3000))))] []) Tryd.f18.results.toList (qpure X Tryd.f18.results.toList r) 400 [.code (cd Tryd.f18)] (entryA 0 [.int .i64 n]) [] := by
    refine Eq.mp ?_ h
    kernel_rfl
  exact Eq.mp (by kernel_rfl) (walk_sound _ _ _ _ h2)
theorem w_rIsKelvin (n : Int) (r : V) (h : VLe r (V.bool (decide ((1 : Int) ≤ n) && decide (n ≤ (3000 : Int))))) :
    AW X Tryd.f24.ntmps (qpure X Tryd.f24.results.toList r) [.code (cd Tryd.f24)] (entryA 0 [.int .i64 n]) [] := by
  have h2 : walk (wk Tryd.f24.ntmps tA oA [] []) Tryd.f24.results.toList (qpure X Tryd.f24.results.toList r) 400 [.code (cd Tryd.f24)] (entryA 0 [.int .i64 n]) [] := by
    refine Eq.mp ?_ h
    kernel_rfl
  exact Eq.mp (by kernel_rfl) (walk_sound _ _ _ _ h2)
theorem w_isAmount (n : Int) (r : V) (h : VLe r (V.bool (decide ((0 : Int) ≤ n) && decide (n ≤ (10000 : Int))))) :
    AW X Tryd.f20.ntmps (qpure X Tryd.f20.results.toList r) [.code (cd Tryd.f20)] (entryA 0 [.int .i64 n]) [] := by
  have h2 : walk (wk Tryd.f20.ntmps tA oA [] []) Tryd.f20.results.toList (qpure X Tryd.f20.results.toList r) 400 [.code (cd Tryd.f20)] (entryA 0 [.int .i64 n]) [] := by
    refine Eq.mp ?_ h
    kernel_rfl
  exact Eq.mp (by kernel_rfl) (walk_sound _ _ _ _ h2)
theorem w_ceil (n d f : Int) (r : V) (h : PureCall X 27 [V.int .i64 (IntKind.i64.wrap ((0 : Int) - n)), V.int .i64 d] (V.int .i64 f) ∧ VLe r (V.int .i64 (IntKind.i64.wrap ((0 : Int) - f)))) :
    AW X Tryd.f28.ntmps (qpure X Tryd.f28.results.toList r) [.code (cd Tryd.f28)] (entryA 0 [.int .i64 n, .int .i64 d]) [] := by
  have h2 : walk (wk Tryd.f28.ntmps tA oA [(8, .val (.int .i64 f))] []) Tryd.f28.results.toList (qpure X Tryd.f28.results.toList r) 400 [.code (cd Tryd.f28)] (entryA 0 [.int .i64 n, .int .i64 d]) [] := by
    refine Eq.mp ?_ h
    kernel_rfl
  exact Eq.mp (by kernel_rfl) (walk_sound _ _ _ _ h2)
theorem w_isName (s : ByteArray) (r : V) (h : AW X (40 : Nat) (qpure X Tryd.f22.results.toList r) (kk Tryd.f22 (0 : Nat)) [((8 : Nat), V.int .i64 (0 : Int)), ((7 : Nat), V.int .i64 (↑s.size : Int)), ((2 : Nat), V.bool false), ((0 : Nat), V.str s)] []) :
    AW X Tryd.f22.ntmps (qpure X Tryd.f22.results.toList r) [.code (cd Tryd.f22)] (entryA 0 [.str s]) [] := by
  have h2 : walk (wk Tryd.f22.ntmps tA oA [] []) Tryd.f22.results.toList (qpure X Tryd.f22.results.toList r) 400 [.code (cd Tryd.f22)] (entryA 0 [.str s]) [] := by
    refine Eq.mp ?_ h
    kernel_rfl
  exact Eq.mp (by kernel_rfl) (walk_sound _ _ _ _ h2)
theorem w_isName1 (s : ByteArray) (i c : Int) (lt : Bool) (q : List V → LH → Prop) (r : V) (h : (decide (i < (↑s.size : Int)) = true → (0 : Int) ≤ i ∧ i < (↑s.size : Int) ∧ V.int .i64 (IntKind.i64.wrap (↑(s.data.getD i.toNat (OfNat.ofNat (0 : Nat))).toNat : Int)) = V.int .i64 c ∧ ((!(decide ((97 : Int) ≤ c) && decide (c ≤ (122 : Int)))) = true → (!(decide ((97 : Int) ≤ c) && decide (c ≤ (122 : Int)))) = true) ∧ ((decide ((97 : Int) ≤ c) && decide (c ≤ (122 : Int))) = false → (!(decide ((97 : Int) ≤ c) && decide (c ≤ (122 : Int)))) = true) ∧ V.bool (if (decide ((97 : Int) ≤ c) && decide (c ≤ (122 : Int))) = true then true else decide ((65 : Int) ≤ c) && decide (c ≤ (90 : Int))) = V.bool lt ∧ ((!lt) = true → (!lt) = true) ∧ ((!lt) = true → (!lt) = true) ∧ ((!lt && !i == (0 : Int)) = true → (!lt && !i == (0 : Int)) = true) ∧ ((!lt && !i == (0 : Int)) = true → (!lt && !i == (0 : Int)) = true) ∧ ((!lt && !i == (0 : Int) && c != (45 : Int)) = true → (!lt && !i == (0 : Int) && c != (45 : Int)) = true) ∧ ((!lt && !i == (0 : Int) && c != (45 : Int)) = true → (!lt && !i == (0 : Int) && c != (45 : Int)) = true) ∧ ((!lt && !i == (0 : Int)) = true → (!lt && !i == (0 : Int)) = true) ∧ ((!lt && !i == (0 : Int)) = true → (c != (45 : Int)) = true → (!lt && !i == (0 : Int) && c != (45 : Int)) = true) ∧ ((!lt) = true → (!lt) = true) ∧ ((!lt) = true → (i == (0 : Int)) = false → (!lt && !i == (0 : Int)) = true) ∧ ((!lt) = true → (!lt) = true) ∧ ((if (!lt) = true then if (i == (0 : Int)) = true then true else if (c != (45 : Int)) = true then !(decide ((48 : Int) ≤ c) && decide (c ≤ (57 : Int))) else false else false) = true → VLe r (V.bool false)) ∧ ((if (!lt) = true then if (i == (0 : Int)) = true then true else if (c != (45 : Int)) = true then !(decide ((48 : Int) ≤ c) && decide (c ≤ (57 : Int))) else false else false) = false → q [V.int .i64 (IntKind.i64.wrap (i + (1 : Int))), V.int .i64 (↑s.size : Int), V.bool false, V.str s] [])) ∧ (decide (i < (↑s.size : Int)) = false → VLe r (V.bool (decide ((1 : Int) ≤ (↑s.size : Int)) && decide ((↑s.size : Int) ≤ (12 : Int)))))) :
    AW X Tryd.f22.ntmps (qpure X Tryd.f22.results.toList r) (kr (kk Tryd.f22 0) [8, 7, 2, 0] q) (List.zip [8, 7, 2, 0] [.int .i64 i, .int .i64 s.size, .bool false, .str s]) [] := by
  have h2 : walk (wk Tryd.f22.ntmps tA oA [(14, .val (.int .i64 c)), (20, .val (.bool lt))] []) Tryd.f22.results.toList (qpure X Tryd.f22.results.toList r) 400 (kr (kk Tryd.f22 0) [8, 7, 2, 0] q) (List.zip [8, 7, 2, 0] [.int .i64 i, .int .i64 s.size, .bool false, .str s]) [] := by
    refine Eq.mp ?_ h
    kernel_rfl
  exact Eq.mp (by kernel_rfl) (walk_sound _ _ _ _ h2)
theorem w_bIsName (s : ByteArray) (r : V) (h : ((!decide ((↑s.size : Int) < (1 : Int))) = true → (!decide ((↑s.size : Int) < (1 : Int))) = true) ∧ ((!decide ((↑s.size : Int) < (1 : Int))) = true → (!decide ((↑s.size : Int) < (1 : Int))) = true) ∧ (decide ((↑s.size : Int) < (1 : Int)) = false → (!decide ((↑s.size : Int) < (1 : Int))) = true) ∧ ((if decide ((↑s.size : Int) < (1 : Int)) = true then true else decide ((↑s.size : Int) > (12 : Int))) = true → VLe r (V.bool false)) ∧ ((if decide ((↑s.size : Int) < (1 : Int)) = true then true else decide ((↑s.size : Int) > (12 : Int))) = false → AW X (55 : Nat) (qpure X Tryd.f25.results.toList r) (kk Tryd.f25 (0 : Nat)) [((3 : Nat), V.int .i64 (0 : Int)), ((2 : Nat), V.bool false), ((0 : Nat), V.str s)] [])) :
    AW X Tryd.f25.ntmps (qpure X Tryd.f25.results.toList r) [.code (cd Tryd.f25)] (entryA 0 [.str s]) [] := by
  have h2 : walk (wk Tryd.f25.ntmps tA oA [] []) Tryd.f25.results.toList (qpure X Tryd.f25.results.toList r) 400 [.code (cd Tryd.f25)] (entryA 0 [.str s]) [] := by
    refine Eq.mp ?_ h
    kernel_rfl
  exact Eq.mp (by kernel_rfl) (walk_sound _ _ _ _ h2)
theorem w_bIsName1 (s : ByteArray) (i c : Int) (l1 l2 : Bool) (q : List V → LH → Prop) (r : V) (h : (decide (i < (↑s.size : Int)) = true → (0 : Int) ≤ i ∧ i < (↑s.size : Int) ∧ V.int IntKind.u8 (↑(s.data.getD i.toNat (OfNat.ofNat (0 : Nat))).toNat : Int) = V.int IntKind.u8 c ∧ (decide (c ≥ (97 : Int)) = true → decide (c ≥ (97 : Int)) = true) ∧ (decide (c ≥ (97 : Int)) = true → decide (c ≥ (97 : Int)) = true) ∧ V.bool (if decide (c ≥ (97 : Int)) = true then decide (c ≤ (122 : Int)) else false) = V.bool l1 ∧ ((!l1) = true → (!l1) = true) ∧ ((!l1) = true → (!l1) = true) ∧ ((!l1 && decide (c ≥ (65 : Int))) = true → (!l1 && decide (c ≥ (65 : Int))) = true) ∧ ((!l1) = true → (!l1) = true) ∧ ((!l1) = true → decide (c ≥ (65 : Int)) = true → (!l1 && decide (c ≥ (65 : Int))) = true) ∧ (l1 = false → (!l1) = true) ∧ V.bool (if l1 = true then true else if decide (c ≥ (65 : Int)) = true then decide (c ≤ (90 : Int)) else false) = V.bool l2 ∧ ((!l2) = true → (!l2) = true) ∧ ((!l2) = true → (!l2) = true) ∧ ((!l2 && !i == (0 : Int)) = true → (!l2 && !i == (0 : Int)) = true) ∧ ((!l2 && !i == (0 : Int)) = true → (!l2 && !i == (0 : Int)) = true) ∧ ((!l2 && !i == (0 : Int) && c != (45 : Int)) = true → (!l2 && !i == (0 : Int) && c != (45 : Int)) = true) ∧ ((!l2 && !i == (0 : Int) && c != (45 : Int)) = true → (!l2 && !i == (0 : Int) && c != (45 : Int)) = true) ∧ ((!l2 && !i == (0 : Int) && c != (45 : Int) && !decide (c < (48 : Int))) = true → (!l2 && !i == (0 : Int) && c != (45 : Int) && !decide (c < (48 : Int))) = true) ∧ ((!l2 && !i == (0 : Int) && c != (45 : Int)) = true → (!l2 && !i == (0 : Int) && c != (45 : Int)) = true) ∧ ((!l2 && !i == (0 : Int) && c != (45 : Int)) = true → decide (c < (48 : Int)) = false → (!l2 && !i == (0 : Int) && c != (45 : Int) && !decide (c < (48 : Int))) = true) ∧ ((!l2 && !i == (0 : Int)) = true → (!l2 && !i == (0 : Int)) = true) ∧ ((!l2 && !i == (0 : Int)) = true → (c != (45 : Int)) = true → (!l2 && !i == (0 : Int) && c != (45 : Int)) = true) ∧ ((!l2) = true → (!l2) = true) ∧ ((!l2) = true → (i == (0 : Int)) = false → (!l2 && !i == (0 : Int)) = true) ∧ ((!l2) = true → (!l2) = true) ∧ ((if (!l2) = true then if (i == (0 : Int)) = true then true else if (c != (45 : Int)) = true then if decide (c < (48 : Int)) = true then true else decide (c > (57 : Int)) else false else false) = true → VLe r (V.bool false)) ∧ ((if (!l2) = true then if (i == (0 : Int)) = true then true else if (c != (45 : Int)) = true then if decide (c < (48 : Int)) = true then true else decide (c > (57 : Int)) else false else false) = false → q [V.int .i64 (IntKind.i64.wrap (i + (1 : Int))), V.bool false, V.str s] [])) ∧ (decide (i < (↑s.size : Int)) = false → VLe r (V.bool true))) :
    AW X Tryd.f25.ntmps (qpure X Tryd.f25.results.toList r) (kr (kk Tryd.f25 0) [3, 2, 0] q) (List.zip [3, 2, 0] [.int .i64 i, .bool false, .str s]) [] := by
  have h2 : walk (wk Tryd.f25.ntmps tA oA [(22, .val (.int .u8 c)), (28, .val (.bool l1)), (36, .val (.bool l2))] []) Tryd.f25.results.toList (qpure X Tryd.f25.results.toList r) 400 (kr (kk Tryd.f25 0) [3, 2, 0] q) (List.zip [3, 2, 0] [.int .i64 i, .bool false, .str s]) [] := by
    refine Eq.mp ?_ h
    kernel_rfl
  exact Eq.mp (by kernel_rfl) (walk_sound _ _ _ _ h2)
end Go.Proofs.YtdcdjjdklhlnlaaDoor
