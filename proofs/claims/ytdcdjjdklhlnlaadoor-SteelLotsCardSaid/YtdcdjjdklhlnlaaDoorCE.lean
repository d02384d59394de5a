/- The law's contract: it hands back true. No condition. -/
import Derived.Test.YtdcdjjdklhlnlaaDoorCD
import Derived.Test.YtdcdjjdklhlnlaaDoorWL
import Derived.Test.YtdcdjjdklhlnlaaDoorAwake
namespace Go.Proofs.YtdcdjjdklhlnlaaDoor
open Go Go.RowKit Go.Alt

theorem cLaw (st : Int) (o : Alt.Own) (ho : OwnLow 0 o) (l : List El) (hnm : ∀ x ∈ l, x.name.size ≤ 4611686018427387904) :
    PureCall X 3 [.agg [.int .i64 st, .slc o (els l)]] (.bool true) := by
  let A := floorE (sumLo (IntKind.i64.wrap (1000 * st)) l) 1000
  let B := IntKind.i64.wrap (0 - floorE (IntKind.i64.wrap (0 - sumHi (IntKind.i64.wrap (1000 * st)) l)) 1000)
  let lo := if (chk st l).2 = 0 then A else 0
  let hi := if (chk st l).2 = 0 then B else 0
  refine pureX Tryd.func3 (by kernel_rfl) (by kernel_rfl) (by kernel_rfl) (by simp [ho]; exact els_low l) (by simp)
    (w_law st o (els l) (chk st l).1 (chk st l).2 lo hi (chk st l).2 (chk st l).1 (chk st l).2 A B false true true _ ⟨cAwake, fun h => Bool.noConfusion h, fun _ => ⟨fun _ => VLe.rfl_ _, fun h => ?_⟩⟩)
  have hlen : l.length ≤ 10 := by have : (l.length : Int) ≤ 10 := by simpa using h
                                  omega
  have hlen2 : l.length ≤ 4611686018427387904 := by omega
  have hc := cCopyA st o ho l hlen
  have hs := cStart st .shared trivial l hlen2 hnm
  have hs' : PureCall X 7 [V.agg [V.int .i64 st, V.slc .shared (els l)]] (V.tup [V.agg [V.int .i64 lo, V.int .i64 hi], V.int .i64 (chk st l).2]) := by
    by_cases h0 : (chk st l).2 = 0
    · rw [if_pos h0] at hs
      simp only [lo, hi, h0, if_true]
      exact hs
    · rw [if_neg h0] at hs
      simp only [lo, hi, h0, if_false]
      exact hs
  refine ⟨hc, cCheckA st .shared trivial l hlen2 hnm, hc, hs', cRCheckA st o ho l hlen2 hnm, fun h => h, fun h => h, fun h => by rw [h]; rfl, by simp, fun h => Bool.noConfusion h, fun _ => ⟨fun h0 => ?_, fun h0 => ?_⟩⟩
  · have h0 : (chk st l).2 ≠ 0 := by simpa using h0
    exact ⟨fun h => h, fun h => h, fun h => h, by simp [lo, hi, h0], VLe.rfl_ _⟩
  · have h0 : (chk st l).2 = 0 := by simpa using h0
    exact ⟨fun h => h, fun _ => cRStart st o ho l hlen2, fun h => h, fun h => h, fun h => h, by simp [lo, hi, h0], VLe.rfl_ _⟩
end Go.Proofs.YtdcdjjdklhlnlaaDoor
