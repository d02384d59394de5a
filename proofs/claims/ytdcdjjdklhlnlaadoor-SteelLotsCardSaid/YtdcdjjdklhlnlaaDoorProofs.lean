/- SteelLots: the row. No condition. -/
import Derived.Test.YtdcdjjdklhlnlaaDoorRows
import Derived.Test.YtdcdjjdklhlnlaaDoorCE
import Derived.Test.YtdcdjjdklhlnlaaDoorAltE
import Derived.LaidMore
import Derived.Stop.Joined
namespace Go.Proofs.YtdcdjjdklhlnlaaDoor
open Go Go.ChangeShapes Go.WideShapes Go.ChangeAt Go.RowKit Go.Alt

theorem own : ownKnob Tryd.prog.godebug = none := by kernel_rfl
theorem laidOut : laidOutB Tryd.prog = true := by kernel_rfl
theorem gDirs : Tryd.prog.globalNamed "martensite/steel.directions" = some 0 := by kernel_rfl
theorem tDirs : (Tryd.prog.globals[0]?).map (·.type) = some 46 := by kernel_rfl

theorem door_met (os : Os) (args : Array Value) : laidMetH Tryd.prog Rows.steelLotsRow.laid ((World.doorLaid Tryd.prog 400 os).forCall (fun _ _ => 0) ⟨#[], args, []⟩).memory :=
  laidMetH_of_parts3 (fuel := 8) (laidMet_of_run' 8 (by kernel_rfl) (by kernel_rfl)) (by kernel_rfl) (by kernel_rfl)

set_option maxRecDepth 100000 in
/-- What the listed variable holds. -/
theorem of_laid {W : World} (h : laidMetH Tryd.prog Rows.steelLotsRow.laid W) : W.var? Tryd.prog "martensite/steel.directions" = some #[.int .i64 1, .int .i64 0, .int .i64 (-1), .int .i64 0] := by
  rw [MakeChecks.laidMetH_plain _ _ _ (by kernel_rfl)] at h
  obtain ⟨ps, ⟨g, t, cs, fuel, p, q, hg, ht, hv, hd, _, _⟩, _, _⟩ := h
  obtain rfl := Option.some.inj (gDirs.symm.trans hg)
  obtain rfl := Option.some.inj (tDirs.symm.trans ht)
  have c3 : Tryd.prog.cellsOf 3 = 1 := by kernel_rfl
  have c46 : Tryd.prog.cellsOf 46 = 4 := by kernel_rfl
  obtain ⟨xs, m, _, ex, hlen, hl, hel⟩ := DataW.trod_array Tryd.underlying46 hd
  rw [c46] at hlen
  simp only [Rows.laid_martensite_steel_directions, Prod.mk.injEq, DataW.agg.injEq] at ex
  rw [hv]
  obtain ⟨l⟩ := cs
  match l, hlen, xs, hl, ex, hel with
  | [a, b, c, d], _, [x0, x1, x2, x3], _, ex, hel =>
    simp only [List.map_cons, List.map_nil, List.cons.injEq, and_true] at ex
    obtain ⟨⟨e0, e1, e2, e3⟩, _⟩ := ex
    have h0 := hel 0 (by decide)
    have h1 := hel 1 (by decide)
    have h2 := hel 2 (by decide)
    have h3 := hel 3 (by decide)
    rw [c3] at h0 h1 h2 h3
    obtain ⟨k0, f0, g0, _⟩ := DataW.trod_int Tryd.underlying3 (show DataW.trod _ Tryd.prog W 0 _ false m 3 [a] = some x0 from h0)
    obtain ⟨k1, f1, g1, _⟩ := DataW.trod_int Tryd.underlying3 (show DataW.trod _ Tryd.prog W 0 _ false m 3 [b] = some x1 from h1)
    obtain ⟨k2, f2, g2, _⟩ := DataW.trod_int Tryd.underlying3 (show DataW.trod _ Tryd.prog W 0 _ false m 3 [c] = some x2 from h2)
    obtain ⟨k3, f3, g3, _⟩ := DataW.trod_int Tryd.underlying3 (show DataW.trod _ Tryd.prog W 0 _ false m 3 [d] = some x3 from h3)
    rw [g0] at e0; rw [g1] at e1; rw [g2] at e2; rw [g3] at e3
    simp only [DataW.lit.injEq, Lit.int.injEq, true_and] at e0 e1 e2 e3
    simp only [List.cons.injEq, and_true] at f0 f1 f2 f3
    subst e0; subst e1; subst e2; subst e3; subst f0; subst f1; subst f2; subst f3
    rfl

theorem grep_of {W : World} (h : laidMetH Tryd.prog Rows.steelLotsRow.laid W) : GRep X (frzMem W) := by
  have hv := of_laid h
  refine ⟨fun g cs hg => ?_, X_know _⟩
  simp only [X] at hg
  split at hg
  · rename_i e
    subst e
    cases hg
    refine ⟨.pin _ 0 0 (fun j => #[Value.int .i64 1, .int .i64 0, .int .i64 (-1), .int .i64 0].toList.getD j undef) (fun j hj => ?_) (fun j hj => ?_), by simp⟩
    · have hc := World.var?_cell gDirs hv j
      match j, hj with
      | 0, _ => exact frzMem_imm (by simpa using hc) rfl
      | 1, _ => exact frzMem_imm (by simpa using hc) rfl
      | 2, _ => exact frzMem_imm (by simpa using hc) rfl
      | 3, _ => exact frzMem_imm (by simpa using hc) rfl
    · match j, hj with
      | 0, _ => exact .int _ _
      | 1, _ => exact .int _ _
      | 2, _ => exact .int _ _
      | 3, _ => exact .int _ _
  · cases hg

theorem els_of {n : Nat} : ∀ (es : List (List V)), (∀ x ∈ es, HasTy Tryd.prog reachBytes n 69 x) → ∃ l : List El, es = els l ∧ ∀ x ∈ l, x.name.size ≤ 4611686018427387904
  | [], _ => ⟨[], rfl, fun x hx => by cases hx⟩
  | x :: r, h => by
    obtain ⟨l, rfl, hl⟩ := els_of r (fun y hy => h y (List.mem_cons_of_mem _ hy))
    obtain ⟨vss, m, rfl, hln, hf⟩ := (h x (List.mem_cons_self ..)).struct_ Tryd.underlying69
    match vss, hln with
    | [a, b, c], _ =>
      obtain ⟨s, rfl, hs⟩ := (hf 0 _ a rfl rfl).str_ Tryd.underlying9
      obtain ⟨vs2, m2, rfl, hln2, hf2⟩ := (hf 1 _ b rfl rfl).struct_ Tryd.underlying31
      obtain ⟨w, rfl, _⟩ := (hf 2 _ c rfl rfl).int_ Tryd.underlying3
      match vs2, hln2 with
      | [p, q], _ =>
        obtain ⟨lo, rfl, _⟩ := (hf2 0 _ p rfl rfl).int_ Tryd.underlying3
        obtain ⟨hi, rfl, _⟩ := (hf2 1 _ q rfl rfl).int_ Tryd.underlying3
        refine ⟨⟨s, lo, hi, w⟩ :: l, rfl, fun y hy => ?_⟩
        rcases List.mem_cons.1 hy with rfl | hy
        · exact Nat.le_trans hs (by unfold reachBytes; omega)
        · exact hl y hy

set_option maxRecDepth 100000 in
theorem lifted (os : Os) (started : os.Started) (H : Type) (enc : TypeId × Value → H) :
    ReturnsInHanded {} Tryd.checked os 3 .any (fun w args => (Rows.steelLotsSpec.pre enc Tryd.prog Tryd.f3 [] false w args ∧ laidMetH Tryd.prog Rows.steelLotsRow.laid w) ∧ sizedMet enc Tryd.prog Tryd.f3 (OpenSpec.ofChange Rows.steelLotsSpec) false w args)
      (Rows.steelLotsSpec.post enc Tryd.prog Tryd.f3 false true false false) := by
  refine returnsInHanded_of_change_and (C := Tryd.checked) (X := fun w _ => laidMetH Tryd.prog Rows.steelLotsRow.laid w) (fun _ _ _ hh h => h.of_heap hh) own started (by kernel_rfl) Tryd.func3
    (ChangeSpec.witness_shaped (enc := enc) (C := Tryd.checked) (os := os) (X := fun w _ => laidMetH Tryd.prog Rows.steelLotsRow.laid w) false (World.doorLaid Tryd.prog 400 os) #[.agg #[.int .i64 0, .slice none 0 0]] 8 rfl (World.shaped_of_RefB (by kernel_rfl) (by kernel_rfl)) (by kernel_rfl) (by kernel_rfl) (by kernel_rfl) (door_met os _)) ?_
  intro W base args ds gs before hval0 hW _ hwt0 hL _
  have hval : ∀ (j : Nat) t v, Tryd.f3.params[j]? = some t → args[j]? = some v → Value.okWide Tryd.prog W .any base t v := hval0
  have hW' := hW
  obtain ⟨p, q, hA0, hV, rfl, hfz, hnd⟩ := hW
  have hA : DataW.TrodAll enc Tryd.prog W 0 (fun _ => true) true Tryd.f3.params.toList args.toList ds p := hA0
  rw [Tryd.params3] at hA hval
  obtain ⟨v0, d0, rfl, rfl, h0⟩ := trodAll_one hA
  obtain ⟨rfl, rfl⟩ := trodVars_none hV
  clear hA0 hval0
  have hwt : (d0.weights Tryd.prog 24).all (· ≤ reachBytes) = true := weightsEach_get _ _ hwt0 0 24 d0 (by kernel_rfl) rfl
  obtain ⟨fuel, h0f⟩ := h0
  have h0 : DataW.Trod enc Tryd.prog W 0 (fun _ => true) true 24 v0 d0 p := ⟨fuel, h0f⟩
  obtain ⟨vs, hvs, hty⟩ := rep_of_trod laidOut fuel 24 _ _ (by kernel_rfl) h0f hwt
  obtain ⟨cs, rfl, _⟩ := okWide_struct Tryd.underlying24 (hval 0 24 v0 rfl rfl)
  obtain ⟨vss, m, rfl, hln, hf⟩ := hty.struct_ Tryd.underlying24
  match vss, hln with
  | [a, b], _ =>
    obtain ⟨st, rfl, _⟩ := (hf 0 _ a rfl rfl).int_ Tryd.underlying3
    rcases (hf 1 _ b rfl rfl).slice_ Tryd.underlying22 with ⟨es, m2, rfl, _, hes⟩ | ⟨ad, len, cap, hsp, rfl⟩
    · obtain ⟨l, rfl, hl⟩ := els_of es hes
      have hrep : VReps (frzMem W) [.agg [.int .i64 st, .slc .shared (els l)]] [.agg cs] :=
        .cons_ (.agg _ cs.toList hvs.1.1 hvs.1.2 hvs.2) .nil_
      refine (calls_of_pure (X := X) (cLaw st .shared trivial l hl) (grep_of hL) hrep (by simp; exact els_low l)).mono fun e W' ⟨x, μ', he, hx, hb⟩ => ?_
      subst he
      cases hx
      refine ⟨_, rfl, [d0], [], p ++ [], [], p, [], hW', ?_, ?_, rfl, hb.frame _, fun h => Bool.noConfusion h⟩
      · exact trodAll_mk1 (shut_bool Tryd.underlying4 _)
      · exact trodAll_mk1 (Below.trod laidOut (by kernel_rfl) (of_decide_eq_true (by kernel_rfl)) h0 hb (fun x hx => by simpa using hW'.lt x (by simpa using hx)))
    · exfalso
      have hm : Value.slice (some ad) len cap ∈ cs.toList := by
        have h1 := hvs.1.2 1 (by simp)
        have hlen := hvs.1.1
        simp at hlen
        have : cs.toList.getD 1 undef = .slice (some ad) len cap := by
          have h1 : VRep (frzMem W) (.con (.slice (some ad) len cap)) (cs.toList.getD 1 undef) := h1
          generalize cs.toList.getD 1 undef = z at h1
          cases h1; rfl
        rw [← this]
        simp only [List.getD]
        rw [List.getElem?_eq_getElem (by simp; omega)]
        simp
      exact hsp (okWide_agg_spot (hval 0 24 _ rfl rfl) hm)

theorem steelLots_holds : Rows.SteelLotsSaid :=
  OpenClaim.holds_of_wide 3 Tryd.f3 rfl rfl rfl rfl rfl rfl rfl ⟨rfl, rfl, rfl, rfl, rfl⟩ rfl rfl rfl rfl rfl (by kernel_rfl) Tryd.func3 (by kernel_rfl)
    (of_decide_eq_true (by kernel_rfl)) (by unfold Func.isWrapper; first | (rw [if_pos (by decide +kernel)]; kernel_rfl) | (rw [if_neg (by decide +kernel)]; exact ⟨rfl, rfl⟩))
    (fun os started H enc _ => lifted os started H enc)
end Go.Proofs.YtdcdjjdklhlnlaaDoor
