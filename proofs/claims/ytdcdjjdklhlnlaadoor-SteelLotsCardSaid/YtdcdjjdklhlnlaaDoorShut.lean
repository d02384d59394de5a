/- Proved: for every input the law martensitelaw04.SteelLots returns true and its argument reads afterwards as it read before; the listed variable is tied to the program's text. No condition. -/
import Derived.Test.YtdcdjjdklhlnlaaDoorProofs
import Derived.Test.YtdcdjjdklhlnlaaDoorCards
import Derived.Test.YtdcdjjdklhlnlaaDoorTie
import Derived.SevenTiedAt
namespace Go.Proofs.YtdcdjjdklhlnlaaDoor
open Go

theorem steelLotsCard_holds : Rows.SteelLotsCardSaid :=
  Claim7.holds_tied_plain_at .later [] [.data] true (true, "8963b4150ae85617fe2b54e915b72173211fc6393f82ae85029e521c08a37f4d") false
    steelLots_holds (fun _ h => by cases h) (by kernel_rfl) (fun _ h => by cases h) steelLots_row_tie rfl ⟨rfl, rfl⟩ (by kernel_rfl) rfl
    (fun f fn hf hfn => by
      obtain rfl : f = 3 := Option.some.inj ((show Tryd.prog.funcNamed "martensite/martensitelaw04.SteelLots" = some 3 by kernel_rfl).symm.trans hf) |>.symm
      obtain rfl : fn = Tryd.f3 := (Option.some.inj (Tryd.func3.symm.trans hfn)).symm
      exact ⟨by kernel_rfl, fun j t ht => by
        rw [Tryd.params3] at ht
        have hm : t ∈ [24] := by simpa using Array.mem_of_getElem? ht
        have hall : ([24].all fun u => !Tryd.prog.wantsStandIn u) = true := by kernel_rfl
        exact (show Tryd.prog.wantsStandIn t = false by simpa using List.all_eq_true.1 hall t hm)⟩)
    (by kernel_rfl)
#print axioms steelLotsCard_holds
end Go.Proofs.YtdcdjjdklhlnlaaDoor
