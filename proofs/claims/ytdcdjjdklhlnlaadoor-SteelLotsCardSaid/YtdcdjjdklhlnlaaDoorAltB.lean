/- The abstract layer over the model's runs, group B: lemmas for the walks. No condition. -/
import Derived.Test.YtdcdjjdklhlnlaaDoorAltA
import Derived.MapKept
import Derived.Laws.NewFold
import Derived.RangeFuncLeaves
import Derived.OrdersIn
import Derived.OwnWalkIn
import Derived.RangeFuncCalls

/- The abstract layer, part 8: slice expressions, len, min, max, conversions, make; all operations together. No condition. -/
namespace Go.Alt
open Go Go.RowKit

section
variable {X : Cx} {w0 : Base} {w : World} {B : Nat} {μ : Mem} {H : AHeap} {ρ : Operand → V} {ρc : Operand → Value}

def sb (o : Option Value) (dflt most : Nat) (code : BoundsCode) : Sem Nat := match o with | some x => Instr.sliceBound x most code | none => pure dflt
theorem bnd_run {P : Program} {o : Option V} {oc : Option Value} {dflt most : Nat} (h : (bnd o dflt most).1) (hr : ∀ v, o = some v → ∃ x, oc = some x ∧ VRep μ v x) (hn : o = none → oc = none) (code : BoundsCode) (w : World) :
    (sb oc dflt most code).run P w = .ok (bnd o dflt most).2 w ∧ (bnd o dflt most).2 ≤ most := by
  cases o with
  | none => rw [hn rfl]; exact ⟨rfl, h⟩
  | some v =>
    obtain ⟨x, hx, hv⟩ := hr v rfl
    rw [hx]
    cases v <;> simp only [bnd] at h ⊢
    case int k i =>
      cases hv
      obtain ⟨h1, h2⟩ := h
      exact ⟨by simp [sb, Instr.sliceBound, asIntOf, h1, h2], by omega⟩
    all_goals exact h.elim

theorem run_bounds {P : Program} {isSlice : Bool} {len cap l h : Nat} {loc hic : Option Value} {w : World}
    (h1 : (sb hic len cap (if isSlice then .sliceAcap else .sliceAlen)).run P w = .ok h w)
    (h2 : (sb loc 0 h .sliceB).run P w = .ok l w) :
    (Instr.sliceBounds isSlice len cap loc hic none).run P w = .ok (l, h, cap) w := by
  unfold Instr.sliceBounds
  cases hic <;> cases loc <;> simp only [sb, Sem.run_pure, Result.ok.injEq, and_true] at h1 h2 <;> simp [h1, h2]
theorem run_bounds3 {P : Program} {len cap l h : Nat} {loc : Option Value} {hc mc : Value} {w : World}
    (h0 : (Instr.sliceBound mc cap .slice3Acap).run P w = .ok h w) (h1 : (Instr.sliceBound hc h .slice3B).run P w = .ok h w)
    (h2 : (sb loc 0 h .slice3C).run P w = .ok l w) :
    (Instr.sliceBounds true len cap loc (some hc) (some mc)).run P w = .ok (l, h, h) w := by
  unfold Instr.sliceBounds
  cases loc <;> simp only [sb, Sem.run_pure, Result.ok.injEq, and_true] at h2 <;> simp [h0, h1, h2]

theorem map_rep (hρ : ∀ x, VRep μ (ρ x) (ρc x)) (o : Option Operand) : (∀ v, o.map ρ = some v → ∃ x, o.map ρc = some x ∧ VRep μ v x) ∧ (o.map ρ = none → o.map ρc = none) := by
  cases o with
  | none => simp
  | some y => simp [hρ y]

/-- A part of a slice reads as that part. -/
theorem slc_cut {es : List (List V)} {c off len cap sz : Nat} {xs : Nat → Nat → Value} (hlen : es.length = len)
    (hsz : ∀ i, i < len → (es.getD i []).length = sz) (hc : ∀ i j, i < len → j < sz → μ.imm c (off + i * sz + j) = some (xs i j))
    (hr : ∀ i j, i < len → j < sz → VRep μ ((es.getD i []).getD j .any) (xs i j)) {l h : Nat} (hl : l ≤ h) (hh : h ≤ len) {o : Own} (ho : OwnOk μ o c (off + l * sz) (h - l) cap sz) (hcap : h - l ≤ cap) :
    VRep μ (.slc o ((es.take h).drop l)) (.slice (some ⟨c, off + l * sz, none⟩) (h - l) cap) := by
  have hget : ∀ i, i < h - l → ((es.take h).drop l).getD i [] = es.getD (l + i) [] := by
    intro i hi
    simp [List.getD, List.getElem?_drop, List.getElem?_take, show l + i < h by omega]
  refine .slc o _ c _ (h - l) cap sz (fun i j => xs (l + i) j) (by simp; omega) hcap (fun i hi => ?_) (fun i j hi hj => ?_) (fun i j hi hj => ?_) ho
  · rw [hget i hi]; exact hsz _ (by omega)
  · have := hc (l + i) j (by omega) hj
    rw [Nat.add_mul, ← Nat.add_assoc] at this
    exact this
  · rw [hget i hi]; exact hr _ j (by omega) hj

theorem vrep_empty {o : Own} {c off cap : Nat} (ho : OwnOk μ o c off 0 cap 0) : VRep μ (.slc o []) (.slice (some ⟨c, off, none⟩) 0 cap) :=
  .slc o [] c off 0 cap 0 (fun _ _ => undef) rfl (Nat.zero_le _) (fun i hi => by omega) (fun i j hi => by omega) (fun i j hi => by omega) ho

theorem does_slice (hs : Sim w0 B μ H w) {o : Oper} {t : TypeId} {x : Operand} {lo hi mx : Option Operand} (ho : o.op = .slice t x lo hi mx) (hρ : ∀ x, VRep μ (ρ x) (ρc x)) (hint : Hint) (nid : Nat) (hok : (arec X hint nid ρ H o.op).ok) :
    Does X w0 B ρc o μ H w (arec X hint nid ρ H o.op) := by
  rw [ho] at hok ⊢
  simp only [arec] at hok ⊢
  have hx := hρ x
  have hexec : (execOp ρc o).run X.P w = ((Instr.sliceAt t (ρc x) (lo.map ρc) (hi.map ρc) (mx.map ρc)).run X.P w).andThen fun v w' => .ok (.value v) w' := by
    simp [execOp, ho]
  obtain ⟨l1, l2⟩ := map_rep hρ lo
  obtain ⟨h1, h2⟩ := map_rep hρ hi
  obtain ⟨m1, m2⟩ := map_rep hρ mx
  generalize ρ x = v at *
  generalize lo.map ρ = lov at *
  generalize hi.map ρ = hiv at *
  generalize mx.map ρ = mxv at *
  generalize lo.map ρc = loc at *
  generalize hi.map ρc = hic at *
  generalize mx.map ρc = mxc at *
  unfold sliceR at hok ⊢
  split at hok
  · rename_i s
    cases hcx : ρc x <;> rw [hcx] at hx <;> cases hx
    cases mxv with
    | some m => exact hok.elim
    | none =>
      have hm := m2 rfl
      subst hm
      obtain ⟨g1, g2, g3⟩ := hok
      have hu := isStrT_spec g1
      obtain ⟨a1, a2⟩ := bnd_run (P := X.P) g2 h1 h2 .sliceAlen w
      obtain ⟨b1, b2⟩ := bnd_run (P := X.P) g3 l1 l2 .sliceB w
      refine does_pure hs (x := .string (s.extract (bnd lov 0 (bnd hiv s.size s.size).2).2 (bnd hiv s.size s.size).2)) ?_ (.str _)
      rw [hexec, hcx]
      have e1 : (Instr.sliceBounds false s.size s.size loc hic none).run X.P w = .ok ((bnd lov 0 (bnd hiv s.size s.size).2).2, (bnd hiv s.size s.size).2, s.size) w := run_bounds a1 b1
      simp [Instr.sliceAt, run_underlying hu, Instr.slice, e1]
  · rename_i own es
    split at hok
    · exact hok.elim
    rename_i e he
    have hu := elemOf_spec he
    cases mxv with
    | none =>
      have hm := m2 rfl
      subst hm
      obtain ⟨g1, g2, g3, g4⟩ := hok
      obtain ⟨b1, b2⟩ := bnd_run (P := X.P) g2 l1 l2 .sliceB w
      rcases vrep_slc hx with ⟨rfl, q⟩ | ⟨c, off, cap, sz, xs, q, hcap, hszz, hcc, hrr, _⟩
      · obtain ⟨a1, a2⟩ := bnd_run (P := X.P) g1 h1 h2 .sliceAcap w
        simp only [List.length_nil] at a1 a2 b1 b2
        refine does_pure hs (x := .slice none 0 0) ?_ ?_
        · rw [hexec, q]
          have z1 : (bnd hiv 0 0).2 = 0 := by omega
          have z2 : (bnd lov 0 (bnd hiv 0 0).2).2 = 0 := by omega
          have e0 := run_bounds (P := X.P) (isSlice := true) a1 b1
          rw [z2, z1] at e0
          have e1 : (Instr.sliceBounds true 0 0 loc hic none).run X.P w = .ok (0, 0, 0) w := e0
          simp [Instr.sliceAt, run_underlying hu, Instr.slice, e1, szOf_run g3]
        · simp only [List.take_nil, List.drop_nil]
          exact .slcNil _
      · have hcapm : (bnd hiv es.length es.length).2 ≤ es.length := by
          cases hiv with
          | none => exact Nat.le_refl _
          | some v => cases v <;> simp only [bnd] at g1 ⊢ <;> first | exact g1.elim | omega
        have a1 : (sb hic es.length cap .sliceAcap).run X.P w = .ok (bnd hiv es.length es.length).2 w := by
          cases hiv with
          | none => rw [h2 rfl]; rfl
          | some v =>
            obtain ⟨y, hy, hv⟩ := h1 v rfl
            rw [hy]
            cases v <;> simp only [bnd] at g1 ⊢
            case int k i =>
              cases hv
              obtain ⟨q1, q2⟩ := g1
              have : i ≤ (cap : Int) := by omega
              simp [sb, Instr.sliceBound, asIntOf, q1, this]
            all_goals exact g1.elim
        generalize hh : (bnd hiv es.length es.length).2 = h at *
        generalize hl : (bnd lov 0 h).2 = l at *
        have e1 : (Instr.sliceBounds true es.length cap loc hic none).run X.P w = .ok (l, h, cap) w := run_bounds a1 b1
        have hsz2 : 0 < es.length → sz = szOf X.P e := by
          intro h0
          rw [← hszz 0 h0]
          apply g4
          simp only [List.getD, List.getElem?_eq_getElem h0, Option.getD_some]
          exact List.getElem_mem h0
        refine does_pure hs (x := .slice (if cap = l then some ⟨c, off, none⟩ else some ⟨c, off + l * szOf X.P e, none⟩) (h - l) (cap - l)) ?_ ?_
        · rw [hexec, q]
          simp only [Instr.sliceAt, Sem.run_bind, run_underlying hu, Result.andThen_ok, Instr.slice, e1, szOf_run g3, Sem.run_pure, Option.map_some, addr_add]
        · simp only [hh, hl]
          rcases Nat.eq_zero_or_pos es.length with h0 | h0
          · have hz : h = 0 := by omega
            have hz2 : l = 0 := by omega
            have hes : es = [] := List.eq_nil_of_length_eq_zero h0
            subst hes; subst hz; subst hz2
            simp only [List.take_nil, List.drop_nil, Nat.sub_zero, Nat.zero_mul, Nat.add_zero, ite_self]
            exact vrep_empty trivial
          · have hs2 := hsz2 h0
            subst hs2
            split
            · rename_i hcl
              have : h - l = 0 := by omega
              have hd : (es.take h).drop l = [] := List.drop_eq_nil_of_le (by rw [List.length_take]; omega)
              rw [this, hd]
              exact vrep_empty trivial
            · exact slc_cut (o := .shared) (cap := cap - l) rfl hszz hcc hrr b2 hcapm trivial (by omega)
    | some m =>
      obtain ⟨g0, gs, g1, g2, gm, g3, g4⟩ := hok
      obtain ⟨mc, hmc, hmr⟩ := m1 m rfl
      subst hmc
      obtain ⟨hv, rfl⟩ : ∃ hv, hiv = some hv := by cases hiv <;> simp at gs; exact ⟨_, rfl⟩
      obtain ⟨hc', hhc, hhr⟩ := h1 hv rfl
      subst hhc
      obtain ⟨b1, b2⟩ := bnd_run (P := X.P) g2 l1 l2 .slice3C w
      have a1 := (bnd_run (P := X.P) (oc := some hc') g1 h1 h2 .slice3B w)
      have mle : (bnd (some m) 0 es.length).2 ≤ es.length := by
        cases m <;> simp only [bnd] at g0 ⊢ <;> first | exact g0.elim | omega
      generalize hmm : (bnd (some m) 0 es.length).2 = m' at *
      generalize hh : (bnd (some hv) es.length m').2 = h at *
      generalize hl : (bnd lov 0 h).2 = l at *
      subst gm
      have msb : ∀ cap : Nat, es.length ≤ cap → (Instr.sliceBound mc cap BoundsCode.slice3Acap).run X.P w = .ok m' w := by
        intro cap hcap
        cases m <;> simp only [bnd] at g0 hmm
        case int k i =>
          cases hmr
          obtain ⟨q1, q2⟩ := g0
          have : i ≤ (cap : Int) := by omega
          simp [Instr.sliceBound, asIntOf, q1, this, hmm]
        all_goals exact g0.elim
      have e1 : ∀ len cap : Nat, es.length ≤ cap → (Instr.sliceBounds true len cap loc (some hc') (some mc)).run X.P w = .ok (l, m', m') w := by
        intro len cap hcap
        exact run_bounds3 (msb cap hcap) a1.1 b1
      rcases vrep_slc hx with ⟨rfl, q⟩ | ⟨c, off, cap, sz, xs, q, hcap, hszz, hcc, hrr, _⟩
      · simp only [List.length_nil] at mle
        have hz : m' = 0 := by omega
        have hz2 : l = 0 := by omega
        subst hz; subst hz2
        refine does_pure hs (x := .slice none 0 0) ?_ ?_
        · rw [hexec, q]
          have := e1 0 0 (by simp)
          simp [Instr.sliceAt, run_underlying hu, Instr.slice, this, szOf_run g3]
        · simp only [List.take_nil, List.drop_nil]
          exact .slcNil _
      · have hsz2 : 0 < es.length → sz = szOf X.P e := by
          intro h0
          rw [← hszz 0 h0]
          apply g4
          simp only [List.getD, List.getElem?_eq_getElem h0, Option.getD_some]
          exact List.getElem_mem h0
        refine does_pure hs (x := .slice (if m' = l then some ⟨c, off, none⟩ else some ⟨c, off + l * szOf X.P e, none⟩) (m' - l) (m' - l)) ?_ ?_
        · rw [hexec, q]
          have := e1 es.length cap hcap
          simp only [Instr.sliceAt, Sem.run_bind, run_underlying hu, Result.andThen_ok, Instr.slice, this, szOf_run g3, Sem.run_pure, Option.map_some, addr_add]
        · simp only [hmm, hh, hl]
          split
          · rename_i hcl
            have hd : (es.take m').drop l = [] := List.drop_eq_nil_of_le (by rw [List.length_take]; omega)
            rw [hd, hcl, Nat.sub_self]
            exact vrep_empty rfl
          · have h0 : 0 < es.length := by omega
            have hs2 := hsz2 h0
            subst hs2
            exact slc_cut (o := .full) (cap := m' - l) rfl hszz hcc hrr b2 mle rfl (Nat.le_refl _)
  · rename_i b off
    split at hok
    · exact hok.elim
    rename_i n e he
    have hu := arrOf_spec he
    cases mxv with
    | some m => exact hok.elim
    | none =>
      have hm := m2 rfl
      subst hm
      obtain ⟨g1, g2, g3, g4⟩ := hok
      obtain ⟨a1, a2⟩ := bnd_run (P := X.P) g1 h1 h2 .sliceAlen w
      obtain ⟨b1, b2⟩ := bnd_run (P := X.P) g2 l1 l2 .sliceB w
      cases hcx : ρc x <;> rw [hcx] at hx <;> cases hx
      rename_i c hb
      have hne : ¬ (n = (bnd lov 0 (bnd hiv n n).2).2) := by omega
      refine does_pure hs (x := .slice (some ⟨c, off + (bnd lov 0 (bnd hiv n n).2).2 * szOf X.P e, none⟩) ((bnd hiv n n).2 - (bnd lov 0 (bnd hiv n n).2).2) (n - (bnd lov 0 (bnd hiv n n).2).2)) ?_ (.msl _ _ _ _ _ _ hb (by omega))
      rw [hexec, hcx]
      have e1 : (Instr.sliceBounds false n n loc hic none).run X.P w = .ok ((bnd lov 0 (bnd hiv n n).2).2, (bnd hiv n n).2, n) w := run_bounds a1 b1
      simp [Instr.sliceAt, run_underlying hu, Instr.sureAddr, e1, szOf_run g3, hne, addr_add]
  · exact hok.elim

end
end Go.Alt

/- The abstract layer, part 8b: maps. No condition. -/
namespace Go.Alt
open Go Go.RowKit

section
variable {X : Cx} {w0 : Base} {w : World} {B : Nat} {μ : Mem} {H : AHeap} {ρ : Operand → V} {ρc : Operand → Value}

theorem mapOf_spec {P : Program} {t k e : TypeId} (h : mapOf P t = some (k, e)) : P.underlying t = some (.map k e) := by
  unfold mapOf at h
  split at h
  · injection h with h; injection h with h1 h2; subst h1; subst h2; assumption
  · cases h
theorem isKeyT_spec {P : Program} {t : TypeId} {v : V} {x : Value} (h : isKeyT P t v = true) (hr : VRep μ v x) : ∃ d, P.underlying t = some d ∧ MapKept.IsKey d x ∧ ((∃ k, d = .int k) ∨ d = .string) := by
  unfold isKeyT at h
  split at h
  · rename_i hk
    cases hr
    have h' : _ = _ := of_decide_eq_true h
    exact ⟨_, hk, h', .inl ⟨_, rfl⟩⟩
  · rename_i hk
    cases hr
    exact ⟨_, hk, trivial, .inr rfl⟩
  · cases h
theorem keyEq_now {d : TypeDesc} (hd : (∃ k, d = .int k) ∨ d = .string) {v u : V} {x y : Value} {r : Bool} (h : keyEq v u = some r) (hv : VRep μ v x) (hu : VRep μ u y) (hk : MapKept.IsKey d x) : Instr.sameNow d x y = some r := by
  unfold keyEq at h
  split at h
  · cases hv; cases hu
    split at h
    · rename_i hkk
      injection h with h
      rcases hd with ⟨k, rfl⟩ | rfl
      · simp [Instr.sameNow, hkk, h]
      · exact hk.elim
    · cases h
  · cases hv; cases hu
    injection h with h
    rcases hd with ⟨k, rfl⟩ | rfl
    · exact hk.elim
    · simp [Instr.sameNow, h]
  · cases h
theorem keyEq_true {v u : V} {x y : Value} (h : keyEq v u = some true) (hv : VRep μ v x) (hu : VRep μ u y) : x = y := by
  unfold keyEq at h
  split at h
  · cases hv; cases hu
    split at h
    · rename_i hkk
      injection h with h
      subst hkk
      rw [eq_of_beq h]
    · cases h
  · cases hv; cases hu
    injection h with h
    rw [(MapKept.bytes_beq _ _).1 h]
  · cases h

theorem mfind_now {d : TypeDesc} (hd : (∃ k, d = .int k) ∨ d = .string) {k : V} {x : Value} (hk : VRep μ k x) (hkey : MapKept.IsKey d x) : ∀ (es : List (V × V)) (xs : List MapEntry) (i : Nat) {r : Option (Nat × V)}, mfind k es i = some r → MReps μ es xs →
    (r = none ∧ Instr.findNow d x xs i = some none) ∨ ∃ j v e, r = some (i + j, v) ∧ Instr.findNow d x xs i = some (some (i + j, e.val)) ∧ VRep μ v e.val ∧ xs[j]? = some e ∧ e.key = x ∧ j < es.length
  | [], [], i, r, h, _ => by
    simp only [mfind, Option.some.injEq] at h
    exact .inl ⟨h.symm, rfl⟩
  | (k', v) :: es, e :: xs, i, r, h, hr => by
    simp only [mfind] at h
    split at h
    · rename_i hq
      injection h with h
      subst h
      refine .inr ⟨0, v, e, rfl, ?_, hr.2.1, rfl, (keyEq_true hq hk hr.1).symm, by simp⟩
      simp [Instr.findNow, keyEq_now hd hq hk hr.1 hkey]
    · rename_i hq
      have hnow := keyEq_now hd hq hk hr.1 hkey
      rcases mfind_now hd hk hkey es xs (i + 1) h hr.2.2 with ⟨h1, h2⟩ | ⟨j, v', e', h1, h2, h3, h4, h5, h6⟩
      · exact .inl ⟨h1, by simp [Instr.findNow, hnow, h2]⟩
      · refine .inr ⟨j + 1, v', e', by rw [h1]; congr 2; omega, ?_, h3, by simpa using h4, h5, by simp; omega⟩
        simp only [Instr.findNow, hnow, h2]
        congr 3; omega
    · cases h
  | [], _ :: _, _, _, _, h => h.elim
  | _ :: _, [], _, _, _, h => h.elim

theorem run_findKey_now {P : Program} {w : World} {kt : TypeId} {d : TypeDesc} {x : Value} {es : List MapEntry} {r : Option (Nat × Value)} (hd : P.underlying kt = some d) (h : Instr.findNow d x es 0 = some r) : (Instr.findKey kt x es).run P w = .ok r w := by
  unfold Instr.findKey
  simp only [Sem.run_bind, run_underlying hd, Result.andThen_ok, h]
  rfl

theorem MReps.set_ {k v : V} {e : MapEntry} (hk : VRep μ k e.key) (hv : VRep μ v e.val) : ∀ {es : List (V × V)} {xs : List MapEntry} (j : Nat), MReps μ es xs → MReps μ (es.set j (k, v)) (xs.set j e)
  | [], [], j, _ => by simp [MReps]
  | _ :: _, _ :: _, 0, h => ⟨hk, hv, h.2.2⟩
  | _ :: _, _ :: _, j + 1, h => ⟨h.1, h.2.1, MReps.set_ hk hv j h.2.2⟩
  | [], _ :: _, _, h => h.elim
  | _ :: _, [], _, h => h.elim
theorem MReps.push_ {k v : V} {e : MapEntry} (hk : VRep μ k e.key) (hv : VRep μ v e.val) : ∀ {es : List (V × V)} {xs : List MapEntry}, MReps μ es xs → MReps μ (es ++ [(k, v)]) (xs ++ [e])
  | [], [], _ => ⟨hk, hv, trivial⟩
  | _ :: _, _ :: _, h => ⟨h.1, h.2.1, MReps.push_ hk hv h.2.2⟩
  | [], _ :: _, h => h.elim
  | _ :: _, [], h => h.elim

theorem does_makeMap (hs : Sim w0 B μ H w) {o : Oper} {t : TypeId} (ho : o.op = .makeMap t none) (hint : Hint) {nid : Nat} (hid : H.get nid = none) : Does X w0 B ρc o μ H w (arec X hint nid ρ H o.op) := by
  rw [ho]
  obtain ⟨he, hsim⟩ := hs.newMap hid
  refine ⟨.map (some w.heap.size), _, w.alloc (.map #[] 0), μ.newMap nid w.heap.size, ?_, .inl rfl, .mp nid _ (by simp [Mem.newMap]), he, hsim⟩
  simp [execOp, ho, Instr.makeMap, Sem.run_bind, run_newObj_alloc, Result.andThen]

theorem does_lookup (hs : Sim w0 B μ H w) {o : Oper} {t : TypeId} {m k : Operand} {cok : Bool} (ho : o.op = .lookup t m k cok) (hρ : ∀ x, VRep μ (ρ x) (ρc x)) (hint : Hint) (nid : Nat) (hok : (arec X hint nid ρ H o.op).ok) : Does X w0 B ρc o μ H w (arec X hint nid ρ H o.op) := by
  rw [ho] at hok ⊢
  simp only [arec] at hok ⊢
  have hm := hρ m
  have hk := hρ k
  unfold lookupR at hok ⊢
  cases hmo : mapOf X.P t with
  | none => simp only [hmo] at hok; exact hok.elim
  | some p =>
    obtain ⟨kt, et⟩ := p
    cases hv : ρ m with
    | mp b =>
      rw [hv] at hm
      simp only [hmo, hv] at hok ⊢
      cases hb : H.get b with
      | none => simp only [hb] at hok; exact hok.elim
      | some blk =>
        cases blk with
        | box cs => simp only [hb] at hok; exact hok.elim
        | tip n => simp only [hb] at hok; exact hok.elim
        | lp st p => simp only [hb] at hok; exact hok.elim
        | map es =>
          simp only [hb] at hok ⊢
          cases hmc : ρc m <;> rw [hmc] at hm <;> cases hm
          rename_i c hμ
          obtain ⟨es', xs, clk, g1, g2, g3, g4⟩ := hs.mp b c hμ
          rw [hb] at g1
          injection g1 with g1
          injection g1 with g1
          subst g1
          have hexec : (execOp ρc o).run X.P w = ((Instr.lookup t (.map (some c)) (ρc k) cok).run X.P w).andThen fun v w => .ok (.value v) w := by
            simp only [execOp, ho, hmc, Sem.run_bind]
            rfl
          cases hf : mfind (ρ k) es 0 with
          | none => simp only [hf] at hok; exact hok.elim
          | some r =>
            simp only [hf] at hok ⊢
            cases r with
            | none =>
              simp only at hok ⊢
              cases hz : zeroV X.P et with
              | none => simp only [hz] at hok; exact hok.elim
              | some z =>
                simp only [hz] at hok ⊢
                obtain ⟨d, hd, hkey, hdd⟩ := isKeyT_spec hok hk
                rcases mfind_now hdd hk hkey es xs.toList 0 hf g3 with ⟨_, h2⟩ | ⟨j, v, e, h1, _⟩
                · have hrun : (Instr.lookup t (.map (some c)) (ρc k) cok).run X.P w = .ok (if cok then .tuple #[z, .bool false] else z) w := by
                    simp [Instr.lookup, run_underlying (mapOf_spec hmo), MapKept.run_getObj_map g2, MapKept.run_checkKey hd hkey, run_findKey_now hd h2, zeroV_run hz, Result.andThen]
                  refine ⟨_, _, w, μ, by rw [hexec, hrun]; rfl, .inl rfl, ?_, Ext.refl μ, hs⟩
                  cases cok
                  · exact ofValue_rep z
                  · have h2 := VReps.cons_ (ofValue_rep (μ := μ) z) (VReps.cons_ (.bool false) .nil_)
                    exact .tup _ _ h2.1 h2.2
                · cases h1
            | some p =>
              obtain ⟨i, v⟩ := p
              simp only at hok ⊢
              obtain ⟨d, hd, hkey, hdd⟩ := isKeyT_spec hok hk
              rcases mfind_now hdd hk hkey es xs.toList 0 hf g3 with ⟨h1, _⟩ | ⟨j, v', e, h1, h2, h3, _⟩
              · cases h1
              · injection h1 with h1
                injection h1 with h0 h1
                subst h1
                have hrun : (Instr.lookup t (.map (some c)) (ρc k) cok).run X.P w = .ok (if cok then .tuple #[e.val, .bool true] else e.val) w := by
                  simp [Instr.lookup, run_underlying (mapOf_spec hmo), MapKept.run_getObj_map g2, MapKept.run_checkKey hd hkey, run_findKey_now hd h2, Result.andThen]
                refine ⟨_, _, w, μ, by rw [hexec, hrun]; rfl, .inl rfl, ?_, Ext.refl μ, hs⟩
                cases cok
                · exact h3
                · have h4 := VReps.cons_ h3 (VReps.cons_ (.bool true) .nil_)
                  exact .tup _ _ h4.1 h4.2
    | _ => simp only [hmo, hv] at hok; exact hok.elim

theorem does_mup (hs : Sim w0 B μ H w) {o : Oper} {t : TypeId} {m k v : Operand} (ho : o.op = .mapUpdate t m k v ∨ o.op = .insert t m k v) (hρ : ∀ x, VRep μ (ρ x) (ρc x)) (hint : Hint) (nid : Nat) (hok : (mupR X.P H t (ρ m) (ρ k) (ρ v)).ok) : Does X w0 B ρc o μ H w (mupR X.P H t (ρ m) (ρ k) (ρ v)) := by
  have hm := hρ m
  have hk := hρ k
  have hx := hρ v
  unfold mupR at hok ⊢
  cases hmo : mapOf X.P t with
  | none => simp only [hmo] at hok; exact hok.elim
  | some p =>
    obtain ⟨kt, et⟩ := p
    cases hv : ρ m with
    | mp b =>
      rw [hv] at hm
      simp only [hmo, hv] at hok ⊢
      cases hb : H.get b with
      | none => simp only [hb] at hok; exact hok.elim
      | some blk =>
        cases blk with
        | box cs => simp only [hb] at hok; exact hok.elim
        | tip n => simp only [hb] at hok; exact hok.elim
        | lp st p => simp only [hb] at hok; exact hok.elim
        | map es =>
          simp only [hb] at hok ⊢
          cases hmc : ρc m <;> rw [hmc] at hm <;> cases hm
          rename_i c hμ
          obtain ⟨es', xs, clk, g1, g2, g3, g4⟩ := hs.mp b c hμ
          rw [hb] at g1
          injection g1 with g1
          injection g1 with g1
          subst g1
          have hexec : (execOp ρc o).run X.P w = ((Instr.mapUpdate t (.map (some c)) (ρc k) (ρc v)).run X.P w).andThen fun _ w => .ok .skip w := by
            rcases ho with ho | ho
            · simp only [execOp, ho, hmc, Sem.run_bind]
              rfl
            · simp only [execOp, ho, hmc, Sem.run_bind]
              rfl
          cases hf : mfind (ρ k) es 0 with
          | none => simp only [hf] at hok; exact hok.elim
          | some r =>
            simp only [hf] at hok ⊢
            cases r with
            | none =>
              simp only at hok ⊢
              obtain ⟨d, hd, hkey, hdd⟩ := isKeyT_spec hok hk
              rcases mfind_now hdd hk hkey es xs.toList 0 hf g3 with ⟨_, h2⟩ | ⟨j, v', e, h1, _⟩
              · have hrun : (Instr.mapUpdate t (.map (some c)) (ρc k) (ρc v)).run X.P w = .ok () { w with heap := w.heap.setIfInBounds c (.map (xs.push { key := ρc k, val := ρc v, born := clk }) (clk + 1)) } := by
                  simp [Instr.mapUpdate, run_underlying (mapOf_spec hmo), MapKept.run_getObj_map g2, MapKept.run_checkKey hd hkey, run_findKey_now hd h2, MapKept.run_setObj_map _ g2, Result.andThen]
                exact ⟨undef, _, _, μ, by rw [hexec, hrun]; rfl, .inr ⟨rfl, rfl⟩, .any _, Ext.refl μ, hs.setMap hμ (by simpa using g3.push_ (e := { key := ρc k, val := ρc v, born := clk }) hk hx) _⟩
              · cases h1
            | some p =>
              obtain ⟨i, v0⟩ := p
              simp only at hok ⊢
              obtain ⟨d, hd, hkey, hdd⟩ := isKeyT_spec hok hk
              rcases mfind_now hdd hk hkey es xs.toList 0 hf g3 with ⟨h1, _⟩ | ⟨j, v', e, h1, h2, h3, h4, h5, h6⟩
              · cases h1
              · injection h1 with h1
                injection h1 with h0 h1
                subst h1
                simp only [Nat.zero_add] at h0 h2
                subst h0
                have h4' : xs[i]? = some e := by simpa using h4
                have hrun : (Instr.mapUpdate t (.map (some c)) (ρc k) (ρc v)).run X.P w = .ok () { w with heap := w.heap.setIfInBounds c (.map (xs.modify i fun e => { e with key := ρc k, val := ρc v }) clk) } := by
                  simp [Instr.mapUpdate, run_underlying (mapOf_spec hmo), MapKept.run_getObj_map g2, MapKept.run_checkKey hd hkey, run_findKey_now hd h2, h4', h5, MapKept.run_keyThatStays hkey, MapKept.run_setObj_map _ g2, Result.andThen]
                refine ⟨undef, _, _, μ, by rw [hexec, hrun]; rfl, .inr ⟨rfl, rfl⟩, .any _, Ext.refl μ, hs.setMap hμ ?_ _⟩
                have hl : (xs.modify i fun e => { e with key := ρc k, val := ρc v }).toList = xs.toList.set i { e with key := ρc k, val := ρc v } := by
                  rw [Array.toList_modify]
                  apply List.ext_getElem?
                  intro q
                  rw [List.getElem?_modify, List.getElem?_set]
                  by_cases hq : i = q
                  · subst hq
                    have hlt : i < xs.toList.length := (List.getElem?_eq_some_iff.1 h4).1
                    simp [h4] at hlt ⊢
                    simp [h4', hlt]
                  · simp [hq]
                rw [hl]
                exact g3.set_ (e := { e with key := ρc k, val := ρc v }) hk hx i
    | _ => simp only [hmo, hv] at hok; exact hok.elim

end
end Go.Alt

/- The abstract layer, part 9: len, min, max, conversions, make; all operations together. No condition. -/
namespace Go.Alt
open Go Go.RowKit

section
variable {X : Cx} {w0 : Base} {w : World} {B : Nat} {μ : Mem} {H : AHeap} {ρ : Operand → V} {ρc : Operand → Value}

theorem isSliceT_spec {P : Program} {t : TypeId} (h : isSliceT P t = true) : ∃ e, P.underlying t = some (.slice e) := by
  unfold isSliceT at h
  split at h
  · exact ⟨_, by assumption⟩
  · cases h
theorem intOfT_spec {P : Program} {t : TypeId} {k : IntKind} (h : intOfT P t = some k) : P.underlying t = some (.int k) := by
  unfold intOfT at h
  split at h
  · injection h with h; subst h; assumption
  · cases h

theorem foldI_run {P : Program} {f : Int → Int → Int} {g : Value → Value → Sem Value} (hg : ∀ k x y, g (.int k x) (.int k y) = pure (.int k (f x y))) : ∀ (rest : List V) (xs : List Value) (k : IntKind) (a m : Int) (w : World),
    foldI f k a rest = some m → VReps μ rest xs → (xs.foldlM g (.int k a)).run P w = .ok (.int k m) w
  | [], xs, k, a, m, w, h, hr => by
    rw [hr.of_nil]
    simp only [foldI, Option.some.injEq] at h
    subst h
    rfl
  | v :: rest, ys, k, a, m, w, h, hr => by
    obtain ⟨x, xs, rfl, hx, hxs⟩ := hr.of_cons
    cases v <;> simp only [foldI] at h
    case int k' b =>
      cases hx
      split at h
      · rename_i hk
        subst hk
        simp only [List.foldlM_cons, hg, Sem.run_bind, Sem.run_pure, Result.andThen_ok]
        exact foldI_run hg rest xs k _ m w h hxs
      · cases h
    all_goals cases h

theorem maps_rep (hρ : ∀ x, VRep μ (ρ x) (ρc x)) (l : List Operand) : VReps μ (l.map ρ) (l.map ρc) := by
  refine ⟨by simp, fun i hi => ?_⟩
  have hi' : i < l.length := by simpa using hi
  simpa [List.getD, List.getElem?_map, List.getElem?_eq_getElem hi'] using hρ l[i]

theorem does_builtin (hs : Sim w0 B μ H w) {o : Oper} {c : Call} {b : Builtin} (ho : o.op = .call c) (hb : c.callee = .builtin b) (hρ : ∀ x, VRep μ (ρ x) (ρc x)) (hint : Hint) {nid : Nat} (hid : H.get nid = none)
    (hok : (builtinR X.P hint nid H b c.argTypes.toList (c.args.toList.map ρ)).ok) : Does X w0 B ρc o μ H w (builtinR X.P hint nid H b c.argTypes.toList (c.args.toList.map ρ)) := by
  obtain ⟨callee, args, argTypes⟩ := c
  simp only at hb hok ⊢
  subst hb
  have hr := maps_rep hρ args.toList
  have hmap : args.map ρc = (args.toList.map ρc).toArray := by apply Array.ext'; simp
  obtain ⟨cst, hexec⟩ : ∃ cst : Array Bool, (execOp ρc o).run X.P w = (builtin b argTypes o.type cst (args.toList.map ρc).toArray).run X.P w := by
    have h : ∀ q : Array Bool, (do let d ← (pure { target := Target.builtin b argTypes o.type q, args := args.map ρc } : Sem Deferred); invoke d.target d.args : Sem Next).run X.P w = (builtin b argTypes o.type q (args.toList.map ρc).toArray).run X.P w := by
      intro q
      simp only [invoke, Sem.run_bind, Sem.run_pure, Result.andThen_ok, hmap]
    exact ⟨_, by simp only [execOp, ho, resolve]; exact h _⟩
  generalize hts : argTypes.toList = ts at *
  have hat : argTypes = ts.toArray := by rw [← hts]
  generalize hvs : args.toList.map ρ = vs at *
  generalize hxs : args.toList.map ρc = xs at *
  unfold builtinR at hok ⊢
  split at hok
  · obtain ⟨x, xs', rfl, hx, h2⟩ := hr.of_cons
    rw [h2.of_nil] at hexec
    cases hx
    refine does_pure hs (x := .int .i64 _) ?_ (.int _ _)
    rw [hexec, hat]
    simp [builtin, Builtin.len_, run_underlying (isStrT_spec hok), goInt]
  · rename_i t own es
    obtain ⟨x, xs', rfl, hx, h2⟩ := hr.of_cons
    rw [h2.of_nil] at hexec
    obtain ⟨e, hu⟩ := isSliceT_spec hok
    rcases vrep_slc hx with ⟨rfl, q⟩ | ⟨c, off, cap, sz, xs, q, _⟩
    · refine does_pure hs (x := .int .i64 _) ?_ (.int _ _)
      rw [hexec, hat, q]
      simp [builtin, Builtin.len_, run_underlying hu, goInt]
    · refine does_pure hs (x := .int .i64 _) ?_ (.int _ _)
      rw [hexec, hat, q]
      simp [builtin, Builtin.len_, run_underlying hu, goInt]
  · obtain ⟨x, xs', rfl, hx, h2⟩ := hr.of_cons
    rw [h2.of_nil] at hexec
    obtain ⟨e, hu⟩ := isSliceT_spec hok
    cases hx
    refine does_pure hs (x := .int .i64 _) ?_ (.int _ _)
    rw [hexec, hat]
    simp [builtin, Builtin.len_, run_underlying hu, goInt]
  · obtain ⟨x, xs', rfl, hx, h2⟩ := hr.of_cons
    rw [h2.of_nil] at hexec
    split at hok
    · rename_i n e he
      have hu := arrOf_spec he
      cases hx
      refine does_pure hs (x := .int .i64 _) ?_ (.int _ _)
      rw [hexec, hat]
      simp [builtin, Builtin.len_, run_underlying hu, goInt]
    · exact hok.elim
  · rename_i t t' s x
    split at hok
    · rename_i htt
      subst htt
      -- the two operands
      obtain ⟨os, ox, hargs, h1, h2⟩ : ∃ os ox, args.toList = [os, ox] ∧ ρ os = s ∧ ρ ox = x := by
        match hq : args.toList, hvs with
        | [a, b], hvs => simp at hvs; exact ⟨a, b, rfl, hvs.1, hvs.2⟩
        | [], hvs => simp at hvs
        | [a], hvs => simp at hvs
        | a :: b :: c :: l, hvs => simp at hvs
      have ha : args = #[os, ox] := by rw [← Array.toArray_toList (xs := args), hargs]
      have := does_append (X := X) (o := o) (t := t) (s := os) (x := ox) hs (by rw [ho, ha, hat]) (hρ os) (hρ ox) hint hid (by rw [h1, h2]; exact hok)
      rw [h1, h2] at this
      simpa using this
    · exact hok.elim
  · rename_i k a rest
    obtain ⟨x, xs', rfl, hx, h2⟩ := hr.of_cons
    split at hok
    · rename_i m hm
      cases hx
      have := foldI_run (P := X.P) (g := Builtin.min2) (f := minI) (fun k x y => by simp [Builtin.min2, minI]) rest xs' k a m w hm h2
      refine does_pure hs (x := .int k m) ?_ (.int _ _)
      rw [hexec]
      simp [builtin, Builtin.min_, this]
    · exact hok.elim
  · rename_i k a rest
    obtain ⟨x, xs', rfl, hx, h2⟩ := hr.of_cons
    split at hok
    · rename_i m hm
      cases hx
      have := foldI_run (P := X.P) (g := Builtin.max2) (f := maxI) (fun k x y => by simp [Builtin.max2, maxI]) rest xs' k a m w hm h2
      refine does_pure hs (x := .int k m) ?_ (.int _ _)
      rw [hexec]
      simp [builtin, Builtin.max_, this]
    · exact hok.elim
  · exact hok.elim

/-- Bytes out of cells. -/
theorem bytes_loop {P : Program} : ∀ (es : List (List V)) (bs : List UInt8) (xs : List Value) (acc : ByteArray) (w : World), bytesOf es = some bs → VReps μ es.flatten xs →
    (forIn (m := Sem) xs acc (fun c s => match c with | .int .u8 n => pure (ForInStep.yield (s.push (UInt8.ofNat n.toNat))) | _ => do (stuck "bytesToString: byte expected" : Sem PUnit); pure (ForInStep.yield s))).run P w = .ok ⟨acc.data ++ bs.toArray⟩ w
  | [], bs, xs, acc, w, h, hr => by
    simp only [bytesOf, Option.some.injEq] at h
    subst h
    rw [hr.of_nil]
    simp
  | c :: es, bs, xs, acc, w, h, hr => by
    simp only [bytesOf] at h
    split at h
    · rename_i b bs' hb hbs
      simp only [Option.some.injEq] at h
      subst h
      unfold byteOf? at hb
      split at hb
      · rename_i n
        simp only [Option.some.injEq] at hb
        subst hb
        simp only [List.flatten_cons, List.singleton_append] at hr
        obtain ⟨x, xs', rfl, hx, h2⟩ := hr.of_cons
        cases hx
        simp only [List.forIn_cons, Sem.run_bind, Sem.run_pure, Result.andThen_ok]
        rw [bytes_loop es bs' xs' _ w hbs h2]
        congr 2
        apply Array.ext'
        simp [ByteArray.push]
      · cases hb
    · cases h

theorem bytesOf_len : ∀ {es : List (List V)} {bs : List UInt8}, bytesOf es = some bs → ∀ c ∈ es, c.length = 1
  | [], _, _, c, hc => by simp at hc
  | d :: es, bs, h, c, hc => by
    simp only [bytesOf] at h
    split at h
    · rename_i b bs' hb hbs
      rcases List.mem_cons.1 hc with rfl | hc
      · unfold byteOf? at hb
        split at hb
        · rfl
        · cases hb
      · exact bytesOf_len hbs c hc
    · cases h

theorem does_convert (hs : Sim w0 B μ H w) {o : Oper} {src dst : TypeId} {x : Operand} (ho : o.op = .convert src dst x) (hx : VRep μ (ρ x) (ρc x)) (hint : Hint) (nid : Nat) (hok : (arec X hint nid ρ H o.op).ok) :
    Does X w0 B ρc o μ H w (arec X hint nid ρ H o.op) := by
  rw [ho] at hok ⊢
  simp only [arec] at hok ⊢
  have hexec : (execOp ρc o).run X.P w = ((convert src dst (ρc x)).run X.P w).andThen fun v w' => .ok (.value v) w' := by simp [execOp, ho]
  generalize ρ x = v at *
  unfold convR at hok ⊢
  split at hok
  · rename_i d k k' n hd hk
    cases hcx : ρc x <;> rw [hcx] at hx <;> cases hx
    refine does_pure hs (x := .int k (k.wrap n)) ?_ (.int _ _)
    rw [hexec, hcx]
    simp [convert, run_underlying hd, run_underlying hk, Conv.intToInt]
  · rename_i d s hd hk
    cases hcx : ρc x <;> rw [hcx] at hx <;> cases hx
    refine does_pure hs (x := .string s) ?_ (.str _)
    rw [hexec, hcx]
    cases d <;> simp [convert, run_underlying hd, run_underlying hk]
  · rename_i e hd hk hne
    split at hok
    · rename_i es rd hit hel
      split at hok
      · rename_i bs hbs
        have hue := intOfT_spec hit
        obtain ⟨base, cap, news, hq, hnl, hnr, hn1, hnc⟩ := elemsV_spec hs hel hx (bytesOf_len hbs)
        have hrun : (Conv.bytesToString (ρc x)).run X.P w = .ok (.string ⟨bs.toArray⟩) w := by
          rw [hq]
          have hl := bytes_loop (P := X.P) es bs news .empty w hbs hnr
          rcases hnc with h0 | ⟨c, off, hb, hcells⟩
          · have : es = [] := List.eq_nil_of_length_eq_zero h0
            subst this
            simp only [bytesOf, Option.some.injEq] at hbs
            subst hbs
            cases base with
            | none => simp [Conv.bytesToString]; rfl
            | some a => simp [Conv.bytesToString, loadCells, loadCellsFrom]; rfl
          · subst hb
            have hload := run_loadCells_list (P := X.P) w ⟨c, off, none⟩ news hcells
            rw [hnl, Nat.mul_one] at hload
            simp only [Conv.bytesToString, Sem.run_bind, hload, Result.andThen_ok]
            rw [← Array.forIn_toList]
            have e : (forIn (m := Sem) news.toArray.toList ByteArray.empty fun c s => match c with | .int .u8 n => pure (ForInStep.yield (s.push (UInt8.ofNat n.toNat))) | _ => do (stuck "bytesToString: byte expected" : Sem PUnit); pure (ForInStep.yield s)).run X.P w = .ok ⟨bs.toArray⟩ w := by simpa using hl
            refine Eq.trans (congrArg (fun r => Result.andThen r _) e) ?_
            rfl
        refine does_pure hs (x := .string ⟨bs.toArray⟩) ?_ (.str _)
        rw [hexec]
        have : (convert src dst (ρc x)).run X.P w = (Conv.bytesToString (ρc x)).run X.P w := by
          rw [hq]
          simp [convert, run_underlying hd, run_underlying hk, run_underlying hue]
        rw [this, hrun]
        rfl
      · exact hok.elim
    · exact hok.elim
  · exact hok.elim

theorem made_rep {P : Program} {e : TypeId} {z : Value} (hr : VReps μ (zeroCells P e) z.cells.toList) (n : Nat) : VReps μ (List.replicate n (zeroCells P e)).flatten (madeCells z.cells (n * z.cells.size)).toList := by
  have hzl : (zeroCells P e).length = z.cells.size := by have := hr.1; simp at this; omega
  have hall : ∀ c ∈ List.replicate n (zeroCells P e), c.length = z.cells.size := by
    intro c hc
    rw [List.eq_of_mem_replicate hc]; exact hzl
  refine ⟨by rw [flatten_len hall]; simp [madeCells], fun k hk => ?_⟩
  rw [flatten_len hall, List.length_replicate] at hk
  have hp : 0 < z.cells.size := by
    rcases Nat.eq_zero_or_pos z.cells.size with q | q
    · rw [q] at hk; simp at hk
    · exact q
  have d1 : k / z.cells.size < n := Nat.div_lt_of_lt_mul (by rw [Nat.mul_comm]; exact hk)
  have d2 := Nat.mod_lt k hp
  have e1 : k = (k / z.cells.size) * z.cells.size + k % z.cells.size := by rw [Nat.mul_comm]; exact (Nat.div_add_mod k z.cells.size).symm
  have hfg := flatten_get hall (k / z.cells.size) (k % z.cells.size) (by simpa using d1) d2
  rw [← e1] at hfg
  rw [hfg]
  have h1 := hr.2 (k % z.cells.size) (by omega)
  have h2 : (List.replicate n (zeroCells P e)).getD (k / z.cells.size) [] = zeroCells P e := by simp [List.getD, List.getElem?_replicate, d1]
  rw [h2]
  have h3 : (madeCells z.cells (n * z.cells.size)).toList.getD k undef = z.cells.toList.getD (k % z.cells.size) undef := by
    simp [madeCells, List.getD, List.getElem?_map, hk, d2]
  rw [h3]
  exact h1

theorem does_makeSlice (hs : Sim w0 B μ H w) {o : Oper} {t : TypeId} {l c : Operand} (ho : o.op = .makeSlice t l c) (hρ : ∀ x, VRep μ (ρ x) (ρc x)) (hint : Hint) {nid : Nat} (hid : H.get nid = none) (hok : (arec X hint nid ρ H o.op).ok) :
    Does X w0 B ρc o μ H w (arec X hint nid ρ H o.op) := by
  rw [ho] at hok ⊢
  simp only [arec] at hok ⊢
  have hl := hρ l
  have hc := hρ c
  generalize ρ l = vl at *
  generalize ρ c = vc at *
  split at hok
  · rename_i e k n k' m he
    have hu := elemOf_spec he
    obtain ⟨g1, g2, g3, g4, g5, g6, g7⟩ := hok
    subst g5
    obtain ⟨it, hit, hisz⟩ := hasType_info g1
    obtain ⟨z, hz, _, hzr, hz1⟩ := hasZero_spec (μ := μ) g2
    obtain ⟨it', hit', hitz⟩ := zeroV_info hz
    rw [hit] at hit'
    injection hit' with hit'
    subst hit'
    have hby : byOf X.P e = it.bytes := by simp [byOf, typeInfo, hit]
    rw [hby] at g6
    have hzs : z.cells.size = it.size := by rw [← hisz, ← g3, ← Array.length_toList, hzr.1]
    cases hcl : ρc l <;> rw [hcl] at hl <;> cases hl
    cases hcc : ρc c <;> rw [hcc] at hc <;> cases hc
    have hrun := run_make (P := X.P) w t e it z hu hit hitz k k' n n g4 (Int.le_refl _) g6 g7
    have hm := made_rep (μ := μ) hzr n.toNat
    rw [hzs] at hm
    have hone : ∀ x ∈ (madeCells z.cells (n.toNat * it.size)).toList, x.oneCell' = true := by
      intro y hy
      simp only [madeCells, Array.toList_map, List.mem_map] at hy
      obtain ⟨i, hi, rfl⟩ := hy
      have hi' : i < n.toNat * it.size := by simpa using hi
      have hpos : 0 < z.cells.size := by
        rcases Nat.eq_zero_or_pos z.cells.size with h0 | h0
        · rw [← hzs, h0] at hi'; simp at hi'
        · exact h0
      have hmm := Nat.mod_lt i hpos
      rw [getElem!_pos z.cells _ hmm]
      exact hz1 _ (by simp)
    obtain ⟨q1, q2⟩ := hs.newBox hid _ _ e hm.pre hone
    refine ⟨.slice (some ⟨w.heap.size, 0, none⟩) n.toNat n.toNat, _, _, _, by simp [execOp, ho, hcl, hcc, hrun], .inl rfl, ?_, q1, q2⟩
    rw [hisz]
    exact .msl _ _ _ _ _ _ (by simp [Mem.newBox]) (Nat.le_refl _)
  · exact hok.elim

/-- Every operation but a call of a function. -/
theorem arec_sound (hs : Sim w0 B μ H w) {o : Oper} (hρ : ∀ x, VRep μ (ρ x) (ρc x)) (hint : Hint) {nid : Nat} (hid : H.get nid = none) (hok : (arec X hint nid ρ H o.op).ok) :
    Does X w0 B ρc o μ H w (arec X hint nid ρ H o.op) := by
  cases ho : o.op with
  | move x => rw [← ho]; exact does_move hs ho (hρ x) hint nid
  | assign x => rw [← ho]; exact does_assign hs ho (hρ x) hint nid
  | pick c a b => rw [← ho]; exact does_pick hs ho hρ hint nid hok
  | alloc t => rw [← ho]; exact does_alloc hs ho hint hid hok
  | box t x => rw [← ho]; exact does_box hs ho (hρ x) hint hid hok
  | build t ps => rw [← ho]; exact does_build hs ho hρ hint nid hok
  | buildSlice t n ps => rw [← ho]; exact does_buildSlice hs ho hρ hint hid hok
  | load t a => rw [← ho]; exact does_load hs ho (hρ a) hint nid hok
  | store t a x => rw [← ho]; exact does_store hs ho hρ hint nid hok
  | nilCheck x => rw [← ho]; exact does_nilCheck hs ho (hρ x) hint nid hok
  | binOp op t x y yt => rw [← ho]; exact does_binOp hs ho (hρ x) (hρ y) hint nid hok
  | unOp op t x => rw [← ho]; exact does_unOp hs ho (hρ x) hint nid hok
  | convert a b x => rw [← ho]; exact does_convert hs ho (hρ x) hint nid hok
  | makeMap t r =>
    cases r with
    | none => rw [← ho]; exact does_makeMap hs ho hint hid
    | some x => rw [ho] at hok; exact hok.elim
  | lookup t m k c => rw [← ho]; exact does_lookup hs ho hρ hint nid hok
  | mapUpdate t m k v => exact does_mup hs (.inl ho) hρ hint nid (by rw [ho] at hok; exact hok)
  | insert t m k v => exact does_mup hs (.inr ho) hρ hint nid (by rw [ho] at hok; exact hok)
  | makeFunc f a b => rw [← ho]; exact does_makeFunc hs ho hρ hint nid
  | makeSlice t l c => rw [← ho]; exact does_makeSlice hs ho hρ hint hid hok
  | slice t x lo hi mx => rw [← ho]; exact does_slice hs ho hρ hint nid hok
  | fieldAddr t x i => rw [← ho]; exact does_fieldAddr hs ho (hρ x) hint nid hok
  | field t x i => rw [← ho]; exact does_field hs ho (hρ x) hint nid hok
  | indexAddr t x i => rw [← ho]; exact does_indexAddr hs ho (hρ x) (hρ i) hint nid hok
  | index t x i => rw [← ho]; exact does_index hs ho (hρ x) (hρ i) hint nid hok
  | extract x i => rw [← ho]; exact does_extract hs ho (hρ x) hint nid hok
  | call c =>
    rw [ho] at hok
    have e : arec X hint nid ρ H (.call c) = match c.callee with | .builtin b => builtinR X.P hint nid H b c.argTypes.toList (c.args.toList.map ρ) | _ => fail := rfl
    rw [e] at hok ⊢
    split at hok
    · rename_i b hb
      exact does_builtin hs ho hb hρ hint hid hok
    · exact hok.elim
  | _ => rw [ho] at hok; exact hok.elim

end
end Go.Alt

/- The abstract layer, part 9b: what an operation makes names nothing that is not there. No condition. -/
namespace Go.Alt
open Go Go.RowKit

def LowL (n : Nat) (cs : List V) : Prop := ∀ v ∈ cs, Low n v
def LowB (n : Nat) : ABlock → Prop
  | .box cs => LowL n cs
  | .tip _ => True
  | .map es => LowM n es
  | .lp _ _ => True
def LowH (n : Nat) (H : AHeap) : Prop := ∀ b blk, H.get b = some blk → LowB n blk
theorem LowH.box {n : Nat} {H : AHeap} (h : LowH n H) {b : Nat} {cs : List V} (hb : H.get b = some (.box cs)) : LowL n cs := h b _ hb
theorem LowH.map {n : Nat} {H : AHeap} (h : LowH n H) {b : Nat} {es : List (V × V)} (hb : H.get b = some (.map es)) : LowM n es := h b _ hb

theorem LowL.mono {n m : Nat} (h : n ≤ m) {cs : List V} (k : LowL n cs) : LowL m cs := fun v hv => (k v hv).mono h
theorem LowL.nil_ {n : Nat} : LowL n [] := fun v hv => by simp at hv
theorem LowL.cons_ {n : Nat} {v : V} {cs : List V} (h : Low n v) (k : LowL n cs) : LowL n (v :: cs) := fun u hu => by
  rcases List.mem_cons.1 hu with rfl | hu
  · exact h
  · exact k u hu
theorem LowL.append {n : Nat} {a b : List V} (h : LowL n a) (k : LowL n b) : LowL n (a ++ b) := fun u hu => by
  rcases List.mem_append.1 hu with hu | hu
  · exact h u hu
  · exact k u hu
theorem LowL.take {n : Nat} {a : List V} (h : LowL n a) (k : Nat) : LowL n (a.take k) := fun u hu => h u (List.mem_of_mem_take hu)
theorem LowL.drop {n : Nat} {a : List V} (h : LowL n a) (k : Nat) : LowL n (a.drop k) := fun u hu => h u (List.mem_of_mem_drop hu)
theorem LowL.getD {n : Nat} {a : List V} (h : LowL n a) (i : Nat) : Low n (a.getD i .any) := by
  by_cases hi : i < a.length
  · exact h _ (getD_mem hi)
  · simp [List.getD, List.getElem?_eq_none (Nat.le_of_not_lt hi)]
    exact .any
theorem LowM.mono {n m : Nat} (h : n ≤ m) {es : List (V × V)} (k : LowM n es) : LowM m es := fun p hp => ⟨(k p hp).1.mono h, (k p hp).2.mono h⟩
theorem LowB.mono {n m : Nat} (h : n ≤ m) {b : ABlock} (k : LowB n b) : LowB m b := by
  cases b with
  | box cs => exact LowL.mono h k
  | tip _ => trivial
  | map es => exact LowM.mono h k
  | lp _ _ => trivial
theorem LowH.mono {n m : Nat} (h : n ≤ m) {H : AHeap} (k : LowH n H) : LowH m H := fun b blk hb => (k b blk hb).mono h

theorem low_ofCell {n : Nat} (v : Value) : Low n (ofCell v) := by
  unfold ofCell
  split
  · exact .bool _
  · exact .int _ _
  · exact .str _
  · exact .nilFn
  · exact .nilPtr
  · exact .nilIf
  · exact .slc _ _ trivial (by simp)
  · exact .con _
theorem low_ofCells {n : Nat} (vs : List Value) : LowL n (vs.map ofCell) := fun v hv => by
  obtain ⟨x, _, rfl⟩ := List.mem_map.1 hv
  exact low_ofCell x
theorem low_ofValue {n : Nat} (v : Value) : Low n (ofValue v) := by
  unfold ofValue
  split
  · split
    · exact .agg _ (low_ofCells _)
    · exact .con _
  · exact low_ofCell v
theorem low_zeroCells {n : Nat} (P : Program) (t : TypeId) : LowL n (zeroCells P t) := by
  unfold zeroCells
  split
  · exact low_ofCells _
  · exact .nil_
theorem low_cells {n : Nat} {v : V} (h : Low n v) : LowL n v.cells := by
  cases v <;> simp only [V.cells] <;> first
    | (cases h; assumption)
    | exact LowL.cons_ h .nil_
theorem low_loadV {n : Nat} {P : Program} {t : TypeId} {cs : List V} (h : LowL n cs) : Low n (loadV P t cs) := by
  unfold loadV
  split
  · exact .agg _ (h.take _)
  · exact h.getD 0
theorem low_core {n : Nat} {v : V} (h : Low n v) (hg : v.gd = true) : Low n v.core := by
  cases v <;> simp only [V.core] <;> first
    | exact h
    | (cases h with | opt _ _ k => exact k hg)
theorem low_pick {n : Nat} {t : Bool} {a b : V} (ha : t = true → Low n a) (hb : t = false → Low n b) : Low n (pickV t a b) := by
  unfold pickV
  split
  · exact .bool _
  · cases t
    · exact hb rfl
    · exact ha rfl
theorem low_splice {n : Nat} {cs ws : List V} (h : LowL n cs) (k : LowL n ws) (off : Nat) : LowL n (splice cs off ws) := by
  unfold splice
  exact ((h.take _).append k).append (h.drop _)
theorem low_fillV {n : Nat} {place : Nat → Option (Nat × Nat)} : ∀ (ps : List (Nat × V)) (cs cs' : List V), (∀ p ∈ ps, Low n p.2) → LowL n cs → fillV place cs ps = some cs' → LowL n cs'
  | [], cs, cs', _, h, e => by simp only [fillV, Option.some.injEq] at e; subst e; exact h
  | (i, v) :: ps, cs, cs', hp, h, e => by
    simp only [fillV] at e
    split at e
    · cases e
    · split at e
      · exact low_fillV ps _ cs' (fun p hq => hp p (by simp [hq])) (low_splice h (low_cells (hp (i, v) (by simp))) _) e
      · cases e
theorem low_elemsOf {n size : Nat} : ∀ (ps : List (Nat × V)) (k : Nat) (es : List (List V)), (∀ p ∈ ps, Low n p.2) → elemsOf size k ps = some es → ∀ c ∈ es, LowL n c
  | [], _, es, _, e => by simp only [elemsOf, Option.some.injEq] at e; subst e; simp
  | (i, v) :: ps, k, es, hp, e => by
    simp only [elemsOf] at e
    split at e
    · simp only [Option.map_eq_some_iff] at e
      obtain ⟨es', he, rfl⟩ := e
      intro c hc
      rcases List.mem_cons.1 hc with rfl | hc
      · exact low_cells (hp (i, v) (by simp))
      · exact low_elemsOf ps _ es' (fun p hq => hp p (by simp [hq])) he c hc
    · cases e
theorem low_flatten {n : Nat} {es : List (List V)} (h : ∀ c ∈ es, LowL n c) : LowL n es.flatten := fun v hv => by
  obtain ⟨c, hc, hv⟩ := List.mem_flatten.1 hv
  exact h c hc v hv
theorem low_chunks {n size : Nat} : ∀ (k : Nat) (cs : List V), LowL n cs → ∀ c ∈ chunks size k cs, LowL n c
  | 0, _, _, c, hc => by simp [chunks] at hc
  | k + 1, cs, h, c, hc => by
    simp only [chunks, List.mem_cons] at hc
    rcases hc with rfl | hc
    · exact h.take _
    · exact low_chunks k _ (h.drop _) c hc
theorem low_elemsV {n : Nat} {H : AHeap} {v : V} {ys : List (List V)} {rd : List (Nat × Nat)} (hH : LowH n H) (hv : Low n v) (h : elemsV H v = some (ys, rd)) : ∀ c ∈ ys, LowL n c := by
  unfold elemsV at h
  split at h
  · simp only [Option.some.injEq, Prod.mk.injEq] at h
    obtain ⟨rfl, _⟩ := h
    cases hv
    assumption
  · split at h
    · rename_i cs hg
      split at h
      · simp only [Option.some.injEq, Prod.mk.injEq] at h
        obtain ⟨rfl, _⟩ := h
        exact low_chunks _ _ ((hH.box hg).drop _)
      · cases h
    · cases h
  · cases h

/-- The effects are low, too. -/
def Eff.low (n : Nat) : Eff → Prop
  | .new id b => id < n ∧ LowB n b
  | .mset _ es => LowM n es
  | .set _ _ v => Low n v
  | .tip _ _ => True
theorem low_setsE {n b : Nat} : ∀ (vs : List V) (off : Nat), LowL n vs → ∀ e ∈ setsE b off vs, Eff.low n e
  | [], _, _, e, he => by simp [setsE] at he
  | v :: vs, off, h, e, he => by
    simp only [setsE, List.mem_cons] at he
    rcases he with rfl | he
    · exact h v (by simp)
    · exact low_setsE vs (off + 1) (fun u hu => h u (by simp [hu])) e he
theorem low_app {n : Nat} {H : AHeap} {e : Eff} (h : LowH n H) (he : Eff.low n e) : LowH n (e.app H) := by
  intro b blk hb
  cases e with
  | new id blk' =>
    simp only [Eff.app, AHeap.new] at hb
    split at hb
    · injection hb with hb
      subst hb
      exact he.2
    · exact h b blk hb
  | set id off v =>
    simp only [Eff.app, AHeap.set] at hb
    split at hb
    · cases hg : H.get b with
      | none => simp [hg] at hb
      | some blk0 =>
        rw [hg] at hb
        simp only [Option.map_some, Option.some.injEq] at hb
        subst hb
        have h0 := h b _ hg
        cases blk0 with
        | box cs' =>
          intro u hu
          rcases List.mem_or_eq_of_mem_set hu with hu | rfl
          · exact LowH.box h hg u hu
          · exact he
        | tip m => trivial
        | map es => exact h0
        | lp _ _ => trivial
    · exact h b blk hb
  | tip id m =>
    simp only [Eff.app, AHeap.tip] at hb
    split at hb
    · injection hb with hb; subst hb; trivial
    · exact h b blk hb
  | mset id es =>
    simp only [Eff.app, AHeap.mset] at hb
    split at hb
    · injection hb with hb; subst hb; exact he
    · exact h b blk hb
theorem low_apps {n : Nat} : ∀ (l : List Eff) (H : AHeap), LowH n H → (∀ e ∈ l, Eff.low n e) → LowH n (apps l H)
  | [], _, h, _ => h
  | e :: l, H, h, hl => low_apps l _ (low_app h (hl e (by simp))) (fun e' he' => hl e' (by simp [he']))

theorem low_mapL {n : Nat} {ρ : Operand → V} (h : ∀ x, Low n (ρ x)) (l : List Operand) : LowL n (l.map ρ) := fun v hv => by
  obtain ⟨x, _, rfl⟩ := List.mem_map.1 hv
  exact h x
theorem low_pairs {n : Nat} {ρ : Operand → V} (h : ∀ x, Low n (ρ x)) (l : List (Nat × Operand)) : ∀ p ∈ l.map (fun p => (p.1, ρ p.2)), Low n p.2 := fun v hv => by
  obtain ⟨x, _, rfl⟩ := List.mem_map.1 hv
  exact h x.2

def newIn : List Eff → Bool
  | [] => false
  | .new _ _ :: _ => true
  | _ :: l => newIn l
def RecLow (nid n : Nat) (r : Rec) : Prop := r.ok → (newIn r.effs = true → nid < n) → Low n r.val ∧ ∀ e ∈ r.effs, Eff.low n e
theorem recLow_pure {nid n : Nat} {p : Prop} {v : V} {rd : List (Nat × Nat)} (h : p → Low n v) : RecLow nid n ⟨p, v, rd, []⟩ := fun hp _ => ⟨h hp, by simp⟩
theorem recLow_fail {nid n : Nat} : RecLow nid n fail := fun h _ => h.elim

theorem low_take_drop {n : Nat} {es : List (List V)} (h : ∀ c ∈ es, LowL n c) (a b : Nat) : ∀ c ∈ (es.take a).drop b, LowL n c := fun c hc => h c (List.mem_of_mem_take (List.mem_of_mem_drop hc))

theorem low_mfind {n : Nat} {k : V} : ∀ {es : List (V × V)} {i j : Nat} {v : V}, LowM n es → mfind k es i = some (some (j, v)) → Low n v
  | [], _, _, _, _, h => by simp [mfind] at h
  | (k', u) :: es, i, j, v, hl, h => by
    simp only [mfind] at h
    split at h
    · simp only [Option.some.injEq, Prod.mk.injEq] at h
      rw [← h.2]
      exact (hl (k', u) (by simp)).2
    · exact low_mfind (fun p hp => hl p (by simp [hp])) h
    · cases h
theorem low_lookupR {n nid : Nat} {P : Program} {H : AHeap} {t : TypeId} {m k : V} {c : Bool} (hH : LowH n H) : RecLow nid n (lookupR P H t m k c) := by
  unfold lookupR
  split
  · split
    · rename_i es hes
      split
      · rename_i v hv
        have hl := low_mfind (hH.map hes) hv
        refine recLow_pure fun _ => ?_
        split
        · exact .tup _ (LowL.cons_ hl (LowL.cons_ (.bool _) .nil_))
        · exact hl
      · split
        · refine recLow_pure fun _ => ?_
          split
          · exact .tup _ (LowL.cons_ (low_ofValue _) (LowL.cons_ (.bool _) .nil_))
          · exact low_ofValue _
        · exact recLow_fail
      · exact recLow_fail
    · exact recLow_fail
  · exact recLow_fail
theorem low_mupR {n nid : Nat} {P : Program} {H : AHeap} {t : TypeId} {m k v : V} (hH : LowH n H) (hk : Low n k) (hv : Low n v) : RecLow nid n (mupR P H t m k v) := by
  unfold mupR
  split
  · split
    · rename_i es hes
      have hl := hH.map hes
      split
      · refine fun _ _ => ⟨.any, ?_⟩
        simp only [List.mem_singleton, forall_eq]
        intro p hp
        rcases List.mem_or_eq_of_mem_set hp with hp | rfl
        · exact hl p hp
        · exact ⟨hk, hv⟩
      · refine fun _ _ => ⟨.any, ?_⟩
        simp only [List.mem_singleton, forall_eq]
        intro p hp
        rcases List.mem_append.1 hp with hp | hp
        · exact hl p hp
        · simp only [List.mem_singleton] at hp
          subst hp
          exact ⟨hk, hv⟩
      · exact recLow_fail
    · exact recLow_fail
  · exact recLow_fail

theorem arec_low {X : Cx} {hint : Hint} {nid n : Nat} {ρ : Operand → V} {H : AHeap} (hρ : ∀ x, Low n (ρ x)) (hH : LowH n H) (op : Op) : RecLow nid n (arec X hint nid ρ H op) := by
  cases op <;> simp only [arec] <;> try exact recLow_fail
  case move x => exact recLow_pure fun _ => hρ x
  case assign x => exact recLow_pure fun _ => hρ x
  case pick c a b =>
    split
    · exact recLow_pure fun h => low_pick (fun q => low_core (hρ a) (h.1 q)) (fun q => low_core (hρ b) (h.2 q))
    · exact recLow_fail
  case alloc t => exact fun _ hn => have hn := hn rfl; ⟨.ptr _ _ hn, by simp [Eff.low, hn]; exact low_zeroCells _ _⟩
  case box t x => exact fun _ hn => have hn := hn rfl; ⟨.ptr _ _ hn, by simp [Eff.low, hn]; exact low_cells (hρ x)⟩
  case build t ps =>
    split
    · exact recLow_pure fun _ => .agg _ (low_fillV _ _ _ (low_pairs hρ _) (low_zeroCells _ _) (by assumption))
    · exact recLow_fail
  case buildSlice t k ps =>
    split
    · exact recLow_fail
    · split
      · exact recLow_fail
      · rename_i es hes
        have hl := low_elemsOf _ _ es (low_pairs hρ _) hes
        cases hint <;> simp only
        · exact recLow_pure fun _ => .slc _ _ trivial hl
        · exact recLow_pure fun _ => .slc _ _ trivial hl
        · exact fun _ hn => have hn := hn rfl; ⟨.msl _ _ _ _ hn, by simp [Eff.low, hn]; exact low_flatten hl⟩
  case makeMap t r =>
    cases r with
    | none => exact fun _ hn => have hn := hn rfl; ⟨.mp _ hn, by simp [Eff.low, hn]; exact fun p hp => by simp at hp⟩
    | some x => exact recLow_fail
  case lookup t m k c => exact low_lookupR hH
  case mapUpdate t m k v => exact low_mupR hH (hρ k) (hρ v)
  case insert t m k v => exact low_mupR hH (hρ k) (hρ v)
  case load t a =>
    have ha := hρ a
    split
    · split
      · exact recLow_pure fun _ => low_loadV ((hH.box (by assumption)).drop _)
      · exact recLow_fail
    · rename_i cs hc
      rw [hc] at ha
      cases ha with
      | pin _ h => exact recLow_pure fun _ => low_loadV h
    · exact recLow_fail
  case store t a x =>
    split
    · split
      · exact fun _ _ => ⟨.any, low_setsE _ _ (low_cells (hρ x))⟩
      · exact recLow_fail
    · exact recLow_fail
  case nilCheck x =>
    have hx := hρ x
    split
    all_goals first
      | exact recLow_fail
      | (rename_i hc; rw [hc] at hx; exact recLow_pure fun _ => hx)
  case binOp op t x y yt =>
    have hb : ∀ p b, RecLow nid n (⟨p, .bool b, [], []⟩ : Rec) := fun p b => recLow_pure fun _ => .bool b
    unfold binR
    split
    · split
      · unfold binI
        split
        all_goals first
          | exact recLow_fail
          | exact recLow_pure fun _ => .int _ _
          | exact recLow_pure fun _ => .bool _
      · exact recLow_fail
    · unfold binS
      split
      all_goals first
        | exact recLow_fail
        | exact recLow_pure fun _ => .str _
        | exact recLow_pure fun _ => .bool _
    · have he : ∀ neg a b, RecLow nid n (eqR X.P neg t x y a b) := by
        intro neg a b
        unfold eqR
        split
        all_goals (split; all_goals first
          | exact recLow_fail
          | exact recLow_pure fun _ => .bool _)
      split
      · exact he _ _ _
      · exact he _ _ _
      · exact recLow_fail
  case unOp op t x =>
    split
    · exact recLow_pure fun _ => .bool _
    · exact recLow_pure fun _ => .int _ _
    · exact recLow_fail
  case convert a b x =>
    unfold convR
    split
    · exact recLow_pure fun _ => .int _ _
    · exact recLow_pure fun _ => .str _
    · split
      · split
        · exact recLow_pure fun _ => .str _
        · exact recLow_fail
      · exact recLow_fail
    · exact recLow_fail
  case makeFunc f a b => exact recLow_pure fun _ => .fn _ _ _ (low_mapL hρ _) (low_mapL hρ _)
  case makeSlice t l c =>
    split
    · exact fun _ hn => have hn := hn rfl; ⟨.msl _ _ _ _ hn, by
        simp [Eff.low, hn]
        exact low_flatten fun c hc => by rw [List.eq_of_mem_replicate hc]; exact low_zeroCells _ _⟩
    · exact recLow_fail
  case slice t x lo hi mx =>
    have hx := hρ x
    unfold sliceR
    split
    · split
      · exact recLow_fail
      · exact recLow_pure fun _ => .str _
    · rename_i own es hc
      rw [hc] at hx
      split
      · exact recLow_fail
      · cases hx with
        | slc _ _ _ h =>
          split
          · exact recLow_pure fun _ => .slc _ _ trivial (low_take_drop h _ _)
          · exact recLow_pure fun _ => .slc _ _ trivial (low_take_drop h _ _)
    · rename_i b off hc
      rw [hc] at hx
      split
      · exact recLow_fail
      · split
        · exact recLow_fail
        · cases hx with
          | ptr _ _ h => exact recLow_pure fun _ => .msl _ _ _ _ h
    · exact recLow_fail
  case fieldAddr t x i =>
    have hx := hρ x
    split
    · rename_i hc
      rw [hc] at hx
      cases hx with
      | ptr _ _ h => exact recLow_pure fun _ => .ptr _ _ h
    · rename_i hc
      rw [hc] at hx
      cases hx with
      | pin _ h => exact recLow_pure fun _ => .pin _ (LowL.drop h _)
    · exact recLow_fail
  case field t x i =>
    have hx := hρ x
    split
    · rename_i hc
      rw [hc] at hx
      cases hx with
      | agg _ h => exact recLow_pure fun _ => low_loadV (LowL.drop h _)
    · exact recLow_fail
  case indexAddr t x i =>
    have hx := hρ x
    split
    · rename_i es _ _ hc _
      rw [hc] at hx
      split
      · cases hx with
        | slc _ _ _ h => exact recLow_pure fun hok => .pin _ (h _ (getD_mem2 (by
            obtain ⟨_, h1, h2, _⟩ := hok
            omega)))
      · exact recLow_fail
    · rename_i hc _
      rw [hc] at hx
      split
      · cases hx with
        | msl _ _ _ _ h => exact recLow_pure fun _ => .ptr _ _ h
      · exact recLow_fail
    · rename_i hc _
      rw [hc] at hx
      split
      · cases hx with
        | ptr _ _ h => exact recLow_pure fun _ => .ptr _ _ h
      · exact recLow_fail
    · rename_i hc _
      rw [hc] at hx
      split
      · cases hx with
        | pin _ h => exact recLow_pure fun _ => .pin _ (LowL.drop h _)
      · exact recLow_fail
    · exact recLow_fail
  case index t x i =>
    have hx := hρ x
    split
    · exact recLow_pure fun _ => .int _ _
    · rename_i hc _
      rw [hc] at hx
      split
      · cases hx with
        | agg _ h => exact recLow_pure fun _ => low_loadV (LowL.drop h _)
      · exact recLow_fail
    · exact recLow_fail
  case extract x i =>
    have hx := hρ x
    split
    · rename_i hc
      rw [hc] at hx
      cases hx with
      | tup _ h => exact recLow_pure fun _ => LowL.getD h _
    · exact recLow_fail
  case call c =>
    split
    · generalize hvs : c.args.toList.map ρ = vs
      have hl : LowL n vs := by rw [← hvs]; exact low_mapL hρ _
      unfold builtinR
      split
      · exact recLow_pure fun _ => .int _ _
      · exact recLow_pure fun _ => .int _ _
      · exact recLow_pure fun _ => .int _ _
      · split
        · exact recLow_pure fun _ => .int _ _
        · exact recLow_fail
      · rename_i s x _ _
        split
        · have hs := hl s (by simp)
          have hx := hl x (by simp)
          unfold appendR
          split
          · rename_i e ys rd he hel
            have hys := low_elemsV hH hx hel
            split
            · rename_i es
              have hall : ∀ c ∈ es ++ ys, LowL n c := fun c hc => by
                cases hs with
                | slc _ _ _ h =>
                  rcases List.mem_append.1 hc with hc | hc
                  · exact h c hc
                  · exact hys c hc
              cases hint <;> simp only
              · exact fun _ _ => ⟨.slc _ _ trivial hall, by simp⟩
              · exact fun _ hn => have hn := hn rfl; ⟨.slc _ _ hn hall, by simp [Eff.low, hn, LowB]⟩
              · exact fun _ hn => have hn := hn rfl; ⟨.msl _ _ _ _ hn, by simp only [List.mem_singleton, forall_eq]; exact ⟨hn, low_flatten hall⟩⟩
            · rename_i b es
              split
              · cases hs with
                | slc _ _ ho h =>
                  exact fun _ _ => ⟨.slc _ _ ho (fun c hc => by
                    rcases List.mem_append.1 hc with hc | hc
                    · exact h c hc
                    · exact hys c hc), by simp [Eff.low]⟩
              · exact recLow_fail
            · exact recLow_fail
          · exact recLow_fail
        · exact recLow_fail
      · split
        · exact recLow_pure fun _ => .int _ _
        · exact recLow_fail
      · split
        · exact recLow_pure fun _ => .int _ _
        · exact recLow_fail
      · exact recLow_fail
    · exact recLow_fail

theorem apps_n_le : ∀ (l : List Eff) (H : AHeap), H.n ≤ (apps l H).n
  | [], H => Nat.le_refl _
  | .new id b :: l, H => Nat.le_trans (show H.n ≤ (H.new id b).n by simp only [AHeap.new]; omega) (apps_n_le l _)
  | .set id off v :: l, H => apps_n_le l (H.set id off v)
  | .tip id n :: l, H => apps_n_le l (H.tip id n)
  | .mset id es :: l, H => apps_n_le l (H.mset id es)

theorem newIn_lt : ∀ (l : List Eff) (H : AHeap) (nid : Nat), (∀ id b, Eff.new id b ∈ l → id = nid) → newIn l = true → nid < (apps l H).n
  | [], H, nid, _, h => by cases h
  | .new id b :: l, H, nid, hl, h => by
    have := hl id b (by simp)
    subst this
    exact Nat.lt_of_lt_of_le (show id < (H.new id b).n by simp only [AHeap.new]; omega) (apps_n_le l _)
  | .set id off v :: l, H, nid, hl, h => newIn_lt l (H.set id off v) nid (fun i b hb => hl i b (by simp [hb])) h
  | .tip id n :: l, H, nid, hl, h => newIn_lt l (H.tip id n) nid (fun i b hb => hl i b (by simp [hb])) h
  | .mset id es :: l, H, nid, hl, h => newIn_lt l (H.mset id es) nid (fun i b hb => hl i b (by simp [hb])) h

theorem not_new_setsE {b : Nat} {id : Nat} {blk : ABlock} : ∀ (vs : List V) (off : Nat), Eff.new id blk ∉ setsE b off vs
  | [], _, h => by simp [setsE] at h
  | v :: vs, off, h => by
    simp only [setsE, List.mem_cons] at h
    rcases h with h | h
    · cases h
    · exact not_new_setsE vs _ h

theorem new_id_appendR {P : Program} {hint : Hint} {nid : Nat} {t : TypeId} {H : AHeap} {s x : V} {id : Nat} {b : ABlock} (h : Eff.new id b ∈ (appendR P hint nid t H s x).effs) : id = nid := by
  unfold appendR at h
  split at h
  · split at h
    · split at h <;> simp_all
    · split at h <;> simp_all [fail]
    · simp [fail] at h
  · simp [fail] at h
theorem new_id {X : Cx} {hint : Hint} {nid : Nat} {ρ : Operand → V} {H : AHeap} (op : Op) {id : Nat} {b : ABlock} (h : Eff.new id b ∈ (arec X hint nid ρ H op).effs) : id = nid := by
  cases op <;> simp only [arec, yields, must, fail, List.not_mem_nil] at h
  case pick => split at h <;> simp at h
  case alloc => simp at h; exact h.1
  case box => simp at h; exact h.1
  case build => split at h <;> simp at h
  case buildSlice =>
    split at h
    · simp at h
    · split at h
      · simp at h
      · split at h <;> simp at h
        exact h.1
  case load => split at h <;> try split at h
               all_goals simp at h
  case store =>
    split at h
    · split at h
      · exact absurd h (not_new_setsE _ _)
      · simp at h
    · simp at h
  case nilCheck => split at h <;> simp at h
  case binOp =>
    unfold binR at h
    split at h
    · split at h
      · unfold binI at h
        split at h <;> simp [yields, must, fail] at h
      · simp [fail] at h
    · unfold binS at h
      split at h <;> simp [yields, must, fail] at h
    · split at h
      · unfold eqR at h
        split at h <;> try split at h
        all_goals simp [yields, fail] at h
      · unfold eqR at h
        split at h <;> try split at h
        all_goals simp [yields, fail] at h
      · simp [fail] at h
  case unOp => split at h <;> simp at h
  case convert =>
    unfold convR at h
    split at h
    · simp [yields] at h
    · simp [yields] at h
    · split at h
      · split at h <;> simp [fail] at h
      · simp [fail] at h
    · simp [fail] at h
  case makeSlice =>
    split at h <;> simp at h
    exact h.1
  case makeMap t r => cases r <;> simp at h; exact h.1
  case lookup =>
    unfold lookupR at h
    repeat' split at h
    all_goals simp [fail] at h
  case mapUpdate =>
    unfold mupR at h
    repeat' split at h
    all_goals simp [fail] at h
  case insert =>
    unfold mupR at h
    repeat' split at h
    all_goals simp [fail] at h
  case slice =>
    unfold sliceR at h
    repeat' split at h
    all_goals simp [must, fail] at h
  case fieldAddr => split at h <;> simp at h
  case field => split at h <;> simp at h
  case indexAddr =>
    split at h <;> try split at h
    all_goals simp at h
  case index =>
    split at h <;> try split at h
    all_goals simp at h
  case extract => split at h <;> simp at h
  case call =>
    split at h
    · unfold builtinR at h
      split at h
      · simp [must] at h
      · simp [must] at h
      · simp [must] at h
      · split at h <;> simp [yields, fail] at h
      · split at h
        · exact new_id_appendR h
        · simp [fail] at h
      · split at h <;> simp [yields, fail] at h
      · split at h <;> simp [yields, fail] at h
      · simp [fail] at h
    · simp at h

/-- What an operation leaves names only what is there. -/
theorem arec_keeps {X : Cx} {hint : Hint} {ρ : Operand → V} {H : AHeap} (hρ : ∀ x, Low H.n (ρ x)) (hH : LowH H.n H) (op : Op) (hok : (arec X hint H.n ρ H op).ok) :
    Low (apps (arec X hint H.n ρ H op).effs H).n (arec X hint H.n ρ H op).val ∧ LowH (apps (arec X hint H.n ρ H op).effs H).n (apps (arec X hint H.n ρ H op).effs H) ∧ H.n ≤ (apps (arec X hint H.n ρ H op).effs H).n := by
  have hle := apps_n_le (arec X hint H.n ρ H op).effs H
  have h := arec_low (X := X) (hint := hint) (nid := H.n) (n := (apps (arec X hint H.n ρ H op).effs H).n) (fun x => (hρ x).mono hle) (hH.mono hle) op hok
    (newIn_lt _ H H.n fun id b hb => new_id op hb)
  exact ⟨h.1, low_apps _ _ (hH.mono hle) h.2, hle⟩

end Go.Alt

/- The abstract layer, part 10: frames, guards, statements, loops, calls. No condition. -/
namespace Go.Alt
open Go Go.RowKit

/-- The frames of which a walk speaks: a call's own, or a round's within a range over a function. -/
def fen : Option Nat → Fence
  | none => Fence.wide
  | some l => Fence.wide.inRound l
theorem fen_fn (ro : Option Nat) (f : FuncId) : (fen ro).fn f := by cases ro <;> exact trivial
theorem fen_depth (ro : Option Nat) : (fen ro).depth = none := by cases ro <;> rfl
theorem fen_round (ro : Option Nat) : (fen ro).round = ro := by cases ro <;> rfl
theorem callsIn_fen {P : Program} {f : FuncId} {args : Array Value} {w : World} {R : Ending → World → Prop} (ro : Option Nat) (n : Nat) (h : Calls P f args w R) : CallsIn (fen ro) n P f args w R := by
  cases ro with
  | none => exact callsIn_wide.2 h
  | some l => exact CallsIn.inRound l (callsIn_wide.2 h)
theorem oper_fen {P : Program} {o : Oper} {a : Act} {w : World} {next : Act → World → Prop} {Q : Exit → Act → World → Prop} (ro : Option Nat) (hd : ∀ c, o.op ≠ .defer c) (h : o.uponIn (fen ro) 0 P a next Q ((execOp a.eval o).run P w)) : o.wpIn (fen ro) 0 P a w next Q :=
  ⟨fun f _ => fen_fn ro f, by rw [Oper.semAt_plain _ _ _ hd]; exact h⟩

abbrev AAct := List (Nat × V)
def aget : AAct → Nat → V
  | [], _ => .any
  | (k, v) :: r, i => if i = k then v else aget r i
def aput (dst : Option Tmp) (v : V) (α : AAct) : AAct := match dst with | some d => (d, v) :: α | none => α
def dstOk (N : Nat) (dst : Option Tmp) : Prop := match dst with | some d => d < N | none => True

def aeval (X : Cx) (α : AAct) : Operand → V
  | .tmp t => aget α t
  | .const v => ofValue v
  | .global g => match X.G g with | some cs => .pin cs | none => .any
  | .func f => .fn (.func f) [] []

/-- The marks of ranges over functions: blocks of deferred calls, all empty, that the caller did not know of. -/
def Marks (μ0 μ : Mem) (ds : List Deferred) : Prop := ∃ cs : List Nat, cs.Nodup ∧ ds = cs.map (fun c => { target := .collected c, args := #[] }) ∧ ∀ c ∈ cs, μ.dfr c = true ∧ μ0.dfr c = false
theorem Marks.mono {μ0 μ μ' : Mem} {ds : List Deferred} (h : Marks μ0 μ ds) (e : Ext μ μ') : Marks μ0 μ' ds :=
  let ⟨cs, h1, h2, h3⟩ := h; ⟨cs, h1, h2, fun c hc => ⟨e.dfr c (h3 c hc).1, (h3 c hc).2⟩⟩
theorem Marks.low {μ0 μ : Mem} {ds : List Deferred} (h : Marks μ0 μ ds) (n : Nat) : Marks μ0 (μ.low n) ds := h
theorem Marks.nil_ (μ0 μ : Mem) : Marks μ0 μ [] := ⟨[], .nil, rfl, by simp⟩
@[simp] theorem put_defers (a : Act) (dst : Option Tmp) (x : Value) : (a.put dst x).defers = a.defers := by cases dst <;> rfl
def ARep (μ : Mem) (N : Nat) (α : AAct) (a : Act) : Prop := a.tmps.size = N ∧ ∀ i, VRep μ (aget α i) (a.tmps.getD i undef)
def GRep (X : Cx) (μ : Mem) : Prop := (∀ g cs, X.G g = some cs → VRep μ (.pin cs) (.pointer (some ⟨g, 0, none⟩)) ∧ LowL 0 cs) ∧ X.K μ
/-- A round's record is known. -/
def RoOk (ro : Option Nat) (μ0 : Mem) : Prop := ∀ l, ro = some l → ∃ b L, μ0.lp b = some (l, L)
theorem RoOk.none_ (μ0 : Mem) : RoOk none μ0 := fun l h => by cases h
/-- The temporaries name only what is there. -/
def ALow (n : Nat) (α : AAct) : Prop := ∀ i, Low n (aget α i)
theorem ALow.mono {n m : Nat} (h : n ≤ m) {α : AAct} (k : ALow n α) : ALow m α := fun i => (k i).mono h
theorem ALow.put {n : Nat} {α : AAct} (h : ALow n α) {v : V} (hv : Low n v) (dst : Option Tmp) : ALow n (aput dst v α) := by
  cases dst with
  | none => exact h
  | some d =>
    intro i
    simp only [aput, aget]
    split
    · exact hv
    · exact h i

theorem GRep.mono {X : Cx} {μ μ' : Mem} (h : GRep X μ) (e : Ext μ μ') : GRep X μ' := ⟨fun g cs hg => ⟨(h.1 g cs hg).1.mono e, (h.1 g cs hg).2⟩, X.kmono μ μ' e h.2⟩
theorem ARep.mono {μ μ' : Mem} {N : Nat} {α : AAct} {a : Act} (h : ARep μ N α a) (e : Ext μ μ') : ARep μ' N α a := ⟨h.1, fun i => (h.2 i).mono e⟩
theorem ARep.put {μ : Mem} {N : Nat} {α : AAct} {a : Act} (h : ARep μ N α a) {dst : Option Tmp} (hd : dstOk N dst) {v : V} {x : Value} (hv : VRep μ v x) : ARep μ N (aput dst v α) (a.put dst x) := by
  cases dst with
  | none => exact h
  | some d =>
    refine ⟨by simpa [Act.put] using h.1, fun i => ?_⟩
    have hlt : d < a.tmps.size := by rw [h.1]; exact hd
    simp only [aput, aget, Act.put]
    by_cases e : i = d
    · subst e
      simp only [if_true]
      simpa [Array.getD, hlt] using hv
    · simp only [e, if_false]
      have h2 : (a.tmps.setIfInBounds d x).getD i undef = a.tmps.getD i undef := by
        rw [Array.getD_eq_getD_getElem?, Array.getD_eq_getD_getElem?, Array.getElem?_setIfInBounds_ne (fun q => e q.symm)]
      rw [h2]
      exact h.2 i
theorem aeval_rep {X : Cx} {μ : Mem} {N : Nat} {α : AAct} {a : Act} (h : ARep μ N α a) (hg : GRep X μ) (x : Operand) : VRep μ (aeval X α x) (a.eval x) := by
  cases x with
  | tmp t => exact h.2 t
  | const v => exact ofValue_rep v
  | global g =>
    simp only [aeval, Act.eval]
    split
    · exact (hg.1 g _ (by assumption)).1
    · exact .any _
  | func f => exact .fn (.func f) [] [] [] [] rfl rfl (fun i hi => absurd hi (Nat.not_lt_zero i)) (fun i hi => absurd hi (Nat.not_lt_zero i))

theorem aeval_low {X : Cx} {μ : Mem} {n : Nat} {α : AAct} (h : ALow n α) (hg : GRep X μ) (x : Operand) : Low n (aeval X α x) := by
  cases x with
  | tmp t => exact h t
  | const v => exact low_ofValue v
  | global g =>
    simp only [aeval]
    split
    · exact .pin _ ((hg.1 g _ (by assumption)).2.mono (Nat.zero_le n))
    · exact .any
  | func f => exact .fn _ _ _ (by simp) (by simp)

def Callable (P : Program) (f : FuncId) : Prop := ∀ args w, (callFunc f args).run P w = .ok (.enter f args) w
/-- What a call of a function comes to. -/
def ACalls (X : Cx) (f : FuncId) (args : List V) (H : AHeap) (Φ : V → AHeap → Prop) : Prop :=
  Callable X.P f ∧ ∀ (w0 : Base) (B : Nat) (μ : Mem) (w : World) (vals : List Value), Sim w0 B μ H w → GRep X μ → VReps μ args vals → LowL H.n args → LowH H.n H →
    Calls X.P f vals.toArray w (fun e w' => ∃ v x μ' H', e = .returned x ∧ VRep μ' v x ∧ Ext μ μ' ∧ Sim w0 B μ' H' w' ∧ (Low H'.n v ∧ LowH H'.n H' ∧ H.n ≤ H'.n) ∧ Φ v H')
/-- What a call of a round's yield comes to. -/
def AYields (X : Cx) (bl : Nat) (args : List V) (H : AHeap) (Φ : V → AHeap → Prop) : Prop :=
  ∀ (ro : Option Nat) (w0 : Base) (B : Nat) (μ : Mem) (w : World) (vals : List Value) (l : Nat) (L : Loop), μ.lp bl = some (l, L) → Sim w0 B μ H w → GRep X μ → VReps μ args vals → LowL H.n args → LowH H.n H →
    ∃ f tmps assign body, (Instr.yield l vals.toArray).run X.P w = .ok (.round l f tmps assign body) w ∧
      RoundIn (fen ro) 0 X.P l f tmps assign body w (fun e w' => ∃ v x μ' H', e = .returned x ∧ VRep μ' v x ∧ Ext μ μ' ∧ Sim w0 B μ' H' w' ∧ (Low H'.n v ∧ LowH H'.n H' ∧ H.n ≤ H'.n) ∧ Φ v H')
/-- A call that leaves the abstract heap alone and hands back this. -/
def PureCall (X : Cx) (f : FuncId) (args : List V) (r : V) : Prop := ∀ H, ACalls X f args H (fun v H' => v = r ∧ H' = H)

theorem ACalls.mono {X : Cx} {f : FuncId} {args : List V} {H : AHeap} {Φ Ψ : V → AHeap → Prop} (h : ACalls X f args H Φ) (hp : ∀ v H', Φ v H' → Ψ v H') : ACalls X f args H Ψ :=
  ⟨h.1, fun w0 B μ w vals hs hg hr l1 l2 => (h.2 w0 B μ w vals hs hg hr l1 l2).mono fun _ _ ⟨v, x, μ', H', e1, e2, e3, e4, e6, e5⟩ => ⟨v, x, μ', H', e1, e2, e3, e4, e6, hp _ _ e5⟩⟩
theorem PureCall.use {X : Cx} {f : FuncId} {args : List V} {r : V} (h : PureCall X f args r) {H : AHeap} {Φ : V → AHeap → Prop} (hp : Φ r H) : ACalls X f args H Φ :=
  (h H).mono fun _ _ ⟨e1, e2⟩ => by subst e1; subst e2; exact hp

/-- A table of pure functions: what each hands back. -/
abbrev Tab := FuncId → List V → Option V
def TabOk (X : Cx) (Γ : Tab) : Prop := ∀ f args r, Γ f args = some r → PureCall X f args r

def guardV (want : Bool) : V → Option Bool
  | .bool b => some (match want with | true => b | false => !b)
  | .opt g (.bool b) => some (g && (match want with | true => b | false => !b))
  | _ => none
def gtmp (ops : Array Oper) (j : Nat) (α : AAct) : V := match (ops[j]?).bind (·.dst) with | some d => aget α d | none => .any

theorem guard_spec {μ : Mem} {N : Nat} {α : AAct} {a : Act} (h : ARep μ N α a) {ops : Array Oper} {o : Oper} {j : Nat} {want g : Bool} (ho : o.guard = some (j, want)) (hg : guardV want (gtmp ops j α) = some g) :
    Region.wanted o (yielded ops a.tmps) = g := by
  simp only [Region.wanted, ho]
  unfold gtmp at hg
  unfold yielded
  cases hd : (ops[j]?).bind (·.dst) with
  | none => simp [hd, guardV] at hg
  | some d =>
    simp only [hd] at hg
    have hr := h.2 d
    simp only [Option.bind_some]
    have hq : a.tmps.getD d undef = (a.tmps[d]?).getD undef := by simp
    rw [hq] at hr
    generalize aget α d = v at hg hr
    cases hv : a.tmps[d]? with
    | none =>
      simp only [hv, Option.getD_none] at hr
      cases v <;> simp only [guardV] at hg
      case bool b => cases hr
      case opt g1 u =>
        cases u <;> simp only [guardV] at hg
        case bool b =>
          simp only [Option.some.injEq] at hg
          cases hr with
          | opt _ _ _ h1 h2 =>
            cases g1
            · simp at hg; subst hg; rfl
            · have := h1 rfl; cases this
        all_goals cases hg
      all_goals cases hg
    | some x =>
      simp only [hv, Option.getD_some] at hr
      cases v <;> simp only [guardV] at hg
      case bool b =>
        cases hr
        simp only [Option.some.injEq] at hg
        subst hg
        cases want <;> cases b <;> rfl
      case opt g1 u =>
        cases u <;> simp only [guardV] at hg
        case bool b =>
          simp only [Option.some.injEq] at hg
          cases hr with
          | opt _ _ _ h1 h2 =>
            cases g1
            · simp at hg; subst hg
              rw [h2 rfl]; rfl
            · have := h1 rfl
              cases this
              simp only [Bool.true_and] at hg
              subst hg
              cases want <;> cases b <;> rfl
        all_goals cases hg
      all_goals cases hg

/-- An operation that is carried out: what its result is handed to. -/
def astep (X : Cx) (Γ : Tab) (hint : Hint) (o : Oper) (ρ : Operand → V) (H : AHeap) (K : V → AHeap → Prop) : Prop :=
  match o.op with
  | .call c =>
    match c.callee with
    | .value f =>
      match ρ f with
      | .fn (.func g) first caps =>
        match Γ g (first ++ c.args.toList.map ρ ++ caps) with
        | some v => K v H
        | none => ACalls X g (first ++ c.args.toList.map ρ ++ caps) H K
      | .yld l => AYields X l (c.args.toList.map ρ) H K
      | _ => False
    | _ => let r := arec X hint H.n ρ H o.op; r.ok ∧ K r.val (apps r.effs H)
  | op => let r := arec X hint H.n ρ H op; r.ok ∧ K r.val (apps r.effs H)

def V.coreOf (ρ : Operand → V) (x : Operand) : V := (ρ x).core
def gdAll (g : Bool) (ρ : Operand → V) : List Operand → Prop
  | [] => True
  | x :: r => (g = true → (ρ x).gd = true) ∧ gdAll g ρ r

/-- The pure outcome of an operation, where it has one. -/
def apure (X : Cx) (Γ : Tab) (hint : Hint) (o : Oper) (ρ : Operand → V) (H : AHeap) : Option (Prop × V) :=
  match o.op with
  | .call c =>
    match c.callee with
    | .value f =>
      match ρ f with
      | .fn (.func g) first caps => (Γ g (first ++ c.args.toList.map ρ ++ caps)).map fun v => (True, v)
      | _ => none
    | _ => match arec X hint H.n ρ H o.op with | ⟨p, v, _, []⟩ => some (p, v) | _ => none
  | op => match arec X hint H.n ρ H op with | ⟨p, v, _, []⟩ => some (p, v) | _ => none

/-- Helpers with one place that is worked out first. -/
def guardK (g : Option Bool) (A : Bool → Prop) : Prop := match g with | some g => A g | none => False
def pureK (r : Option (Prop × V)) (A : Prop → V → Prop) (B : Prop) : Prop := match r with | some (p, v) => A p v | none => B
def condK (v : V) (A B : Prop) : Prop := match v with | .bool b => (b = true → A) ∧ (b = false → B) | _ => False
theorem guardK_congr {g g' : Option Bool} (h : g = g') (A : Bool → Prop) : guardK g A = guardK g' A := by rw [h]
theorem pureK_congr {r r' : Option (Prop × V)} (h : r = r') (A : Prop → V → Prop) (B : Prop) : pureK r A B = pureK r' A B := by rw [h]
theorem condK_congr {v v' : V} (h : v = v') (A B : Prop) : condK v A B = condK v' A B := by rw [h]
theorem guardK_some (g : Bool) (A : Bool → Prop) : guardK (some g) A = A g := rfl
theorem pureK_some (p : Prop) (v : V) (A : Prop → V → Prop) (B : Prop) : pureK (some (p, v)) A B = A p v := rfl
theorem pureK_none (A : Prop → V → Prop) (B : Prop) : pureK none A B = B := rfl
theorem condK_true (A B : Prop) : condK (.bool true) A B = A := by simp [condK]
theorem condK_false (A B : Prop) : condK (.bool false) A B = B := by simp [condK]
theorem condK_bool (b : Bool) (A B : Prop) : condK (.bool b) A B = ((b = true → A) ∧ (b = false → B)) := rfl

/-- An operation under a guard: without a case on it where the operation is pure. -/
def agstep (X : Cx) (Γ : Tab) (hint : Hint) (g : Bool) (o : Oper) (ρ : Operand → V) (H : AHeap) (K : V → AHeap → Prop) : Prop :=
  gdAll g ρ o.op.operands.toList ∧
  pureK (apure X Γ hint o (V.coreOf ρ) H) (fun p v => (g = true → p) ∧ K (.opt g v) H)
    ((g = true → astep X Γ hint o (V.coreOf ρ) H (fun v H' => K (.opt g v) H')) ∧ (g = false → K (.opt g .any) H))

def awpOps (X : Cx) (Γ : Tab) (hint : Tmp → Hint) (N : Nat) (ops : Array Oper) : List Oper → AAct → AHeap → (AAct → AHeap → Prop) → Prop
  | [], α, H, K => K α H
  | o :: rest, α, H, K =>
    dstOk N o.dst ∧
    match o.guard with
    | none => astep X Γ (hint (o.dst.getD 0)) o (aeval X α) H (fun v H' => awpOps X Γ hint N ops rest (aput o.dst v α) H' K)
    | some (j, want) =>
      guardK (guardV want (gtmp ops j α)) fun g => agstep X Γ (hint (o.dst.getD 0)) g o (aeval X α) H (fun v H' => awpOps X Γ hint N ops rest (aput o.dst v α) H' K)
theorem awpOps_congr {X : Cx} {Γ : Tab} {hint : Tmp → Hint} {N : Nat} {ops : Array Oper} {l : List Oper} {α α' : AAct} {H H' : AHeap} (hα : α = α') (hH : H = H') (K : AAct → AHeap → Prop) : awpOps X Γ hint N ops l α H K = awpOps X Γ hint N ops l α' H' K := by rw [hα, hH]

def Post (X : Cx) (w0 : Base) (B N : Nat) (μ0 : Mem) (q : AAct → AHeap → Prop) (a' : Act) (w' : World) : Prop :=
  ∃ α' H' μ', q α' H' ∧ Ext μ0 μ' ∧ Sim w0 B μ' H' w' ∧ ARep μ' N α' a' ∧ ALow H'.n α' ∧ LowH H'.n H' ∧ Marks μ0 μ' a'.defers

section
variable {X : Cx} {Γ : Tab} {w0 : Base} {B N : Nat} {μ0 : Mem}

theorem step_sound {ro : Option Nat} (hΓ : TabOk X Γ) {hint : Hint} {o : Oper} {ρ : Operand → V} {H : AHeap} {K : V → AHeap → Prop} {μ : Mem} {w : World} {a : Act} (hs : Sim w0 B μ H w) (hg : GRep X μ) (hρ : ∀ x, VRep μ (ρ x) (a.eval x)) (hl : ∀ x, Low H.n (ρ x)) (hH : LowH H.n H)
    (h : astep X Γ hint o ρ H K) {next : Act → World → Prop} {Q : Exit → Act → World → Prop}
    (hn : ∀ v x μ' H' w', VRep μ' v x → Ext μ μ' → Sim w0 B μ' H' w' → (Low H'.n v ∧ LowH H'.n H' ∧ H.n ≤ H'.n) → K v H' → next (a.put o.dst x) w') : o.wpIn (fen ro) 0 X.P a w next Q := by
  have gen : ∀ r : Rec, r = arec X hint H.n ρ H o.op → r.ok → K r.val (apps r.effs H) → o.wpIn (fen ro) 0 X.P a w next Q := by
    intro r hr hok hk
    subst hr
    have hk' := arec_keeps (X := X) (hint := hint) hl hH o.op hok
    obtain ⟨x, n, w', μ', e1, e2, e3, e4, e5⟩ := arec_sound (X := X) (ρc := a.eval) hs hρ hint (hs.fresh H.n (Nat.le_refl _)) hok
    refine oper_fen ro (fun c hc => by rw [hc] at hok; exact hok.elim) ?_
    rw [e1]
    rcases e2 with rfl | ⟨rfl, rfl⟩
    · exact hn _ _ _ _ _ e3 e4 e5 hk' hk
    · exact hn _ _ _ _ _ e3 e4 e5 hk' hk
  unfold astep at h
  split at h
  · rename_i c hop
    split at h
    · rename_i f hcal
      split at h
      · rename_i g first caps hf
        have hfv := hρ f
        rw [hf] at hfv
        cases hfc : a.eval f <;> rw [hfc] at hfv <;> cases hfv
        rename_i fs cs h1 h2 h3 h4
        have hargs : VReps μ (first ++ c.args.toList.map ρ ++ caps) (fs ++ c.args.toList.map a.eval ++ cs) := by
          refine (VReps.append ⟨?_, ?_⟩ (maps_rep hρ c.args.toList)).append ⟨?_, ?_⟩ <;> assumption
        have hcalls : ACalls X g (first ++ c.args.toList.map ρ ++ caps) H K := by
          split at h
          · exact (hΓ _ _ _ (by assumption)).use h
          · exact h
        obtain ⟨hcall, hcalls⟩ := hcalls
        have hfl := hl f
        rw [hf] at hfl
        have hlow : LowL H.n (first ++ c.args.toList.map ρ ++ caps) := by
          cases hfl with
          | fn _ _ _ l1 l2 => exact LowL.append (LowL.append l1 (low_mapL hl _)) l2
        have hc := hcalls w0 B μ w _ hs hg hargs hlow hH
        have hrun : (execOp a.eval o).run X.P w = (callFunc g (fs ++ c.args.toList.map a.eval ++ cs).toArray).run X.P w := by
          simp only [execOp, hop, resolve, hcal, Deferred.ofValue, hfc, Sem.run_bind, Sem.run_pure, Result.andThen_ok, invoke]
          congr 2
          apply Array.ext'
          simp
        refine oper_fen ro (fun c' hc' => by rw [hop] at hc'; cases hc') ?_
        rw [hrun, hcall]
        refine ⟨(fun h => by rw [fen_depth] at h; cases h), callsIn_fen ro _ (hc.mono fun e w' ⟨v, x, μ', H', e1, e2, e3, e4, e6, e5⟩ => ?_)⟩
        subst e1
        exact hn _ _ _ _ _ e2 e3 e4 e6 e5
      · rename_i l hf
        have hfv := hρ f
        rw [hf] at hfv
        obtain ⟨lw, L, hlp, hfc⟩ : ∃ lw L, μ.lp l = some (lw, L) ∧ a.eval f = .func (.yield lw) #[] #[] := by
          cases hfc : a.eval f <;> rw [hfc] at hfv <;> cases hfv
          rename_i hlp
          exact ⟨_, _, hlp, rfl⟩
        obtain ⟨fn, tmps, assign, body, k1, k2⟩ := h ro w0 B μ w _ lw L hlp hs hg (maps_rep hρ c.args.toList) (low_mapL hl _) hH
        have hrun : (execOp a.eval o).run X.P w = (Instr.yield lw (c.args.toList.map a.eval).toArray).run X.P w := by
          simp only [execOp, hop, resolve, hcal, Deferred.ofValue, hfc, Sem.run_bind, Sem.run_pure, Result.andThen_ok, invoke]
          congr 2
          apply Array.ext'
          simp
        refine oper_fen ro (fun c' hc' => by rw [hop] at hc'; cases hc') ?_
        rw [hrun, k1]
        refine ⟨(fun h => by rw [fen_depth] at h; cases h), k2.mono fun e w' ⟨v, x, μ', H', e1, e2, e3, e4, e6, e5⟩ => ?_⟩
        subst e1
        exact hn _ _ _ _ _ e2 e3 e4 e6 e5
      · exact h.elim
    · exact gen _ rfl h.1 h.2
  · exact gen _ rfl h.1 h.2
end
end Go.Alt

/- The abstract layer, part 11: guarded operations, plain regions, statements, loops, entry and exit of a function. No condition. -/
namespace Go.Alt
open Go Go.RowKit

theorem map_congr_ops {β : Type} {ρ ρ' : Operand → β} {l : List Operand} (h : ∀ x ∈ l, ρ x = ρ' x) : l.map ρ = l.map ρ' := List.map_congr_left h

theorem arec_congr {X : Cx} {hint : Hint} {nid : Nat} {ρ ρ' : Operand → V} {H : AHeap} {op : Op} (h : ∀ x ∈ op.operands, ρ x = ρ' x) : arec X hint nid ρ H op = arec X hint nid ρ' H op := by
  have pairs : ∀ ps : Array (Nat × Operand), (∀ x ∈ (ps.toList.map (·.2)).toArray, ρ x = ρ' x) → (ps.toList.map fun p => (p.1, ρ p.2)) = (ps.toList.map fun p => (p.1, ρ' p.2)) := fun ps hp =>
    List.map_congr_left fun p hm => by rw [hp p.2 (by simpa using ⟨p.1, by simpa using hm⟩)]
  have opt : ∀ o : Option Operand, (∀ x ∈ o.toArray, ρ x = ρ' x) → o.map ρ = o.map ρ' := fun o ho => by
    cases o with
    | none => rfl
    | some x => simp [ho x (by simp)]
  cases op <;> simp only [Op.operands] at h <;> simp only [arec]
  case move x => rw [h x (by simp)]
  case assign x => rw [h x (by simp)]
  case pick c a b => rw [h c (by simp), h a (by simp), h b (by simp)]
  case box t x => rw [h x (by simp)]
  case build t ps => rw [pairs ps h]
  case buildSlice t n ps => rw [pairs ps h]
  case load t a => rw [h a (by simp)]
  case store t a x => rw [h a (by simp), h x (by simp)]
  case nilCheck x => rw [h x (by simp)]
  case makeMap t r => cases r <;> rfl
  case lookup t m k c => rw [h m (by simp), h k (by simp)]
  case mapUpdate t m k v => rw [h m (by simp), h k (by simp), h v (by simp)]
  case insert t m k v => rw [h m (by simp), h k (by simp), h v (by simp)]
  case binOp op t x y yt => rw [h x (by simp), h y (by simp)]
  case unOp op t x => rw [h x (by simp)]
  case convert a b x => rw [h x (by simp)]
  case makeFunc f a b => rw [map_congr_ops (l := a.toList) (fun x hx => h x (by simp at hx ⊢; exact .inl hx)), map_congr_ops (l := b.toList) (fun x hx => h x (by simp at hx ⊢; exact .inr hx))]
  case makeSlice t l c => rw [h l (by simp), h c (by simp)]
  case slice t x lo hi mx =>
    rw [h x (by simp), opt lo (fun y hy => h y (by simp at hy ⊢; simp [hy])), opt hi (fun y hy => h y (by simp at hy ⊢; simp [hy])), opt mx (fun y hy => h y (by simp at hy ⊢; simp [hy]))]
  case fieldAddr t x i => rw [h x (by simp)]
  case field t x i => rw [h x (by simp)]
  case indexAddr t x i => rw [h x (by simp), h i (by simp)]
  case index t x i => rw [h x (by simp), h i (by simp)]
  case extract x i => rw [h x (by simp)]
  case call c =>
    obtain ⟨callee, args, ts⟩ := c
    cases callee with
    | builtin b =>
      simp only
      rw [map_congr_ops (l := args.toList) (fun x hx => h x (by simp [Call.operands] at hx ⊢; exact hx))]
    | _ => rfl

def V.coreB : V → V
  | .opt g v => if g = true then v else .any
  | v => v
theorem vrep_coreB {μ : Mem} {v : V} {x : Value} (h : VRep μ v x) : VRep μ v.coreB x := by
  by_cases hg : v.gd = true
  · have := vrep_core h hg
    cases v <;> simp_all [V.coreB, V.core, V.gd]
  · cases v <;> simp_all [V.gd, V.coreB]
    exact .any _
theorem coreB_core {v : V} (h : v.gd = true) : v.coreB = v.core := by
  cases v <;> simp_all [V.coreB, V.core, V.gd]
theorem low_coreB {n : Nat} {v : V} (h : Low n v) : Low n v.coreB := by
  cases v <;> simp only [V.coreB] <;> try exact h
  split
  · cases h with
    | opt _ _ h => exact h (by assumption)
  · exact .any
theorem gdAll_mem {g : Bool} {ρ : Operand → V} : ∀ {l : List Operand}, gdAll g ρ l → g = true → ∀ x ∈ l, (ρ x).gd = true
  | [], _, _, x, hx => by simp at hx
  | y :: l, h, hg, x, hx => by
    rcases List.mem_cons.1 hx with rfl | hx
    · exact h.1 hg
    · exact gdAll_mem h.2 hg x hx

theorem astep_congr {X : Cx} {Γ : Tab} {hint : Hint} {ρ ρ' : Operand → V} {H : AHeap} {o : Oper} {K : V → AHeap → Prop} (h : ∀ x ∈ o.op.operands, ρ x = ρ' x) : astep X Γ hint o ρ H K = astep X Γ hint o ρ' H K := by
  have e := arec_congr (X := X) (hint := hint) (nid := H.n) (H := H) h
  unfold astep
  generalize o.op = op at h e ⊢
  cases op with
  | call c =>
    simp only
    obtain ⟨callee, args, ts⟩ := c
    cases callee with
    | value f =>
      simp only
      have hf : ρ f = ρ' f := h f (by simp [Op.operands, Call.operands])
      have ha : args.toList.map ρ = args.toList.map ρ' := map_congr_ops fun x hx => h x (by simp [Op.operands, Call.operands] at hx ⊢; exact .inr hx)
      rw [hf, ha]
    | _ => simp only [e]
  | _ => simp only [e]
theorem apure_congr {X : Cx} {Γ : Tab} {hint : Hint} {ρ ρ' : Operand → V} {H : AHeap} {o : Oper} (h : ∀ x ∈ o.op.operands, ρ x = ρ' x) : apure X Γ hint o ρ H = apure X Γ hint o ρ' H := by
  have e := arec_congr (X := X) (hint := hint) (nid := H.n) (H := H) h
  unfold apure
  generalize o.op = op at h e ⊢
  cases op with
  | call c =>
    simp only
    obtain ⟨callee, args, ts⟩ := c
    cases callee with
    | value f =>
      simp only
      have hf : ρ f = ρ' f := h f (by simp [Op.operands, Call.operands])
      have ha : args.toList.map ρ = args.toList.map ρ' := map_congr_ops fun x hx => h x (by simp [Op.operands, Call.operands] at hx ⊢; exact .inr hx)
      rw [hf, ha]
    | _ => simp only [e]
  | _ => simp only [e]

theorem astep_of_apure {X : Cx} {Γ : Tab} {hint : Hint} {ρ : Operand → V} {H : AHeap} {o : Oper} {K : V → AHeap → Prop} {p : Prop} {v : V} (h : apure X Γ hint o ρ H = some (p, v)) (hp : p) (hk : K v H) : astep X Γ hint o ρ H K := by
  unfold apure at h
  unfold astep
  have gen : ∀ r : Rec, (match r with | ⟨p, v, _, []⟩ => some (p, v) | _ => none) = some (p, v) → r.ok ∧ K r.val (apps r.effs H) := by
    intro r hr
    obtain ⟨ok, val, rd, effs⟩ := r
    cases effs with
    | nil =>
      simp only [Option.some.injEq, Prod.mk.injEq] at hr
      obtain ⟨rfl, rfl⟩ := hr
      exact ⟨hp, hk⟩
    | cons e l => cases hr
  generalize o.op = op at h ⊢
  cases op with
  | call c =>
    simp only at h ⊢
    obtain ⟨callee, args, ts⟩ := c
    cases callee with
    | value f =>
      simp only at h ⊢
      split at h
      · rename_i g first caps hf
        simp only [Option.map_eq_some_iff] at h
        obtain ⟨u, hu, he⟩ := h
        simp only [Prod.mk.injEq] at he
        obtain ⟨rfl, rfl⟩ := he
        simp only [hf, hu]
        exact hk
      · cases h
    | _ => exact gen _ h
  | _ => exact gen _ h

section
variable {X : Cx} {Γ : Tab} {w0 : Base} {B N : Nat} {μ0 : Mem}

theorem gstep_sound {ro : Option Nat} (hΓ : TabOk X Γ) {hint : Hint} {g : Bool} {o : Oper} {ρ : Operand → V} {H : AHeap} {K : V → AHeap → Prop} {μ : Mem} {w : World} {a : Act} (hs : Sim w0 B μ H w) (hg : GRep X μ) (hρ : ∀ x, VRep μ (ρ x) (a.eval x)) (hl : ∀ x, Low H.n (ρ x)) (hH : LowH H.n H)
    (h : agstep X Γ hint g o ρ H K) {next : Act → World → Prop} {Q : Exit → Act → World → Prop}
    (hn : ∀ v x μ' H' w', VRep μ' v x → Ext μ μ' → Sim w0 B μ' H' w' → (Low H'.n v ∧ LowH H'.n H' ∧ H.n ≤ H'.n) → K v H' → next (a.put o.dst x) w') :
    (g = true → o.wpIn (fen ro) 0 X.P a w next Q) ∧ (g = false → next (a.put o.dst undef) w) := by
  obtain ⟨hgd, h⟩ := h
  unfold pureK at h
  have hcong : g = true → ∀ x ∈ o.op.operands, V.coreOf ρ x = (ρ x).coreB := fun hgt x hx => (coreB_core (gdAll_mem hgd hgt x (by simpa using hx))).symm
  constructor
  · intro hgt
    have hstep : astep X Γ hint o (V.coreOf ρ) H (fun v H' => K (.opt g v) H') := by
      split at h
      · rename_i p v hp
        exact astep_of_apure hp (h.1 hgt) h.2
      · exact h.1 hgt
    rw [astep_congr (hcong hgt)] at hstep
    refine step_sound hΓ hs hg (fun x => vrep_coreB (hρ x)) (fun x => low_coreB (hl x)) hH hstep (fun v x μ' H' w' h1 h2 h3 h5 h4 => hn (.opt g v) x μ' H' w' (.opt g v x (fun _ => h1) (fun q => by rw [hgt] at q; cases q)) h2 h3 ⟨.opt _ _ fun _ => h5.1, h5.2⟩ h4)
  · intro hgf
    split at h
    · rename_i p v hp
      exact hn (.opt g v) undef μ H w (.opt g v undef (fun q => by rw [hgf] at q; cases q) (fun _ => rfl)) (Ext.refl μ) hs ⟨.opt _ _ (fun q => by rw [hgf] at q; cases q), hH, Nat.le_refl _⟩ h.2
    · exact hn (.opt g .any) undef μ H w (.opt g .any undef (fun q => by rw [hgf] at q; cases q) (fun _ => rfl)) (Ext.refl μ) hs ⟨.opt _ _ (fun q => by rw [hgf] at q; cases q), hH, Nat.le_refl _⟩ (h.2 hgf)

theorem awpOps_sound {ro : Option Nat} (hΓ : TabOk X Γ) {hint : Tmp → Hint} {ops : Array Oper} {Q : Exit → Act → World → Prop} {q : AAct → AHeap → Prop} (hQ : ∀ a' w', Post X w0 B N μ0 q a' w' → Q .normal a' w') (hg0 : GRep X μ0) :
    ∀ (l : List Oper) (α : AAct) (H : AHeap) (μ : Mem) (w : World) (a : Act), Ext μ0 μ → Sim w0 B μ H w → ARep μ N α a → ALow H.n α → LowH H.n H → Marks μ0 μ a.defers → awpOps X Γ hint N ops l α H q → wpListIn (fen ro) 0 X.P ops Q l a w
  | [], α, H, μ, w, a, he, hs, ha, hal, hH, hM, h => wpListIn_nil (hQ a w ⟨α, H, μ, h, he, hs, ha, hal, hH, hM⟩)
  | o :: rest, α, H, μ, w, a, he, hs, ha, hal, hH, hM, h => by
    obtain ⟨hd, h⟩ := h
    have hg := hg0.mono he
    have hnext : ∀ v x μ' H' w', VRep μ' v x → Ext μ μ' → Sim w0 B μ' H' w' → (Low H'.n v ∧ LowH H'.n H' ∧ H.n ≤ H'.n) → awpOps X Γ hint N ops rest (aput o.dst v α) H' q → wpListIn (fen ro) 0 X.P ops Q rest (a.put o.dst x) w' :=
      fun v x μ' H' w' h1 h2 h3 h5 h4 => awpOps_sound hΓ hQ hg0 rest _ H' μ' w' _ (he.trans h2) h3 ((ha.mono h2).put hd h1) ((hal.mono h5.2.2).put h5.1 _) h5.2.1 (by rw [put_defers]; exact hM.mono h2) h4
    refine wpListIn_step fun K hK => ?_
    split at h
    · rename_i hgd
      rw [if_pos (by simp [Region.wanted, hgd])]
      exact step_sound hΓ hs hg (aeval_rep ha hg) (aeval_low hal hg) hH h (fun v x μ' H' w' h1 h2 h3 h5 h4 => hK _ _ (hnext v x μ' H' w' h1 h2 h3 h5 h4))
    · rename_i j want hgd
      unfold guardK at h
      split at h
      · rename_i g hgv
        have hw := guard_spec ha hgd hgv
        have := gstep_sound (ro := ro) (Q := Q) hΓ hs hg (aeval_rep ha hg) (aeval_low hal hg) hH h (next := K) (fun v x μ' H' w' h1 h2 h3 h5 h4 => hK _ _ (hnext v x μ' H' w' h1 h2 h3 h5 h4))
        cases g
        · rw [if_neg (by rw [hw]; simp)]
          exact ⟨fun f _ => fen_fn ro f, this.2 rfl⟩
        · rw [if_pos hw]
          exact this.1 rfl
      · exact h.elim

end

/-- The ways out of a piece of code. -/
inductive AExit where
  | normal
  | ret
  | exit (id : Nat)

abbrev Cont := AAct → AHeap → Prop

def conc (X : Cx) (w0 : Base) (B N : Nat) (μ0 : Mem) (qn qr : Cont) (qe : Nat → Cont) : Exit → Act → World → Prop
  | .normal, a, w => Post X w0 B N μ0 qn a w
  | .ret, a, w => Post X w0 B N μ0 qr a w
  | .exit id, a, w => Post X w0 B N μ0 (qe id) a w
  | _, _, _ => False

/-- Code, from an abstract frame and heap. -/
def AWp (X : Cx) (N : Nat) (c : Code) (qn qr : Cont) (qe : Nat → Cont) (α : AAct) (H : AHeap) : Prop :=
  ∀ (ro : Option Nat) (w0 : Base) (B : Nat) (μ0 μ : Mem) (w : World) (a : Act), RoOk ro μ0 → GRep X μ0 → Ext μ0 μ → Sim w0 B μ H w → ARep μ N α a → ALow H.n α → LowH H.n H → Marks μ0 μ a.defers → c.wpIn (fen ro) 0 X.P (conc X w0 B N μ0 qn qr qe) a w

def awp (X : Cx) (Γ : Tab) (hint : Tmp → Hint) (N : Nat) : Code → Cont → Cont → (Nat → Cont) → AAct → AHeap → Prop
  | .skip, qn, _, _, α, H => qn α H
  | .seq a b, qn, qr, qe, α, H => awp X Γ hint N a (fun α H => awp X Γ hint N b qn qr qe α H) qr qe α H
  | .cond c t e, qn, qr, qe, α, H => condK (aeval X α c) (awp X Γ hint N t qn qr qe α H) (awp X Γ hint N e qn qr qe α H)
  | .block id c, qn, qr, qe, α, H => awp X Γ hint N c qn qr (fun i α H => if i = id then qn α H else qe i α H) α H
  | .exit id, _, _, qe, α, H => qe id α H
  | .ret, _, qr, _, α, H => qr α H
  | .region _ ops false, qn, _, _, α, H => awpOps X Γ hint N ops ops.toList α H qn
  | c, qn, qr, qe, α, H => AWp X N c qn qr qe α H
theorem awp_congr {X : Cx} {Γ : Tab} {hint : Tmp → Hint} {N : Nat} {c : Code} {α α' : AAct} {H H' : AHeap} (hα : α = α') (hH : H = H') (qn qr : Cont) (qe : Nat → Cont) : awp X Γ hint N c qn qr qe α H = awp X Γ hint N c qn qr qe α' H' := by rw [hα, hH]

theorem Post.mono {X : Cx} {w0 : Base} {B N : Nat} {μ0 : Mem} {q q' : Cont} {a : Act} {w : World} (h : Post X w0 B N μ0 q a w) (hq : ∀ α H, q α H → q' α H) : Post X w0 B N μ0 q' a w := by
  obtain ⟨α', H', μ', h1, h2⟩ := h
  exact ⟨α', H', μ', hq _ _ h1, h2⟩

theorem awp_sound {X : Cx} {Γ : Tab} (hΓ : TabOk X Γ) {hint : Tmp → Hint} {N : Nat} : ∀ (c : Code) (qn qr : Cont) (qe : Nat → Cont) (α : AAct) (H : AHeap), awp X Γ hint N c qn qr qe α H → AWp X N c qn qr qe α H
  | .skip, qn, qr, qe, α, H, h => fun ro w0 B μ0 μ w a hro hg he hs ha hl hH hM => Go.wpIn_skip ⟨α, H, μ, h, he, hs, ha, hl, hH, hM⟩
  | .seq x y, qn, qr, qe, α, H, h => fun ro w0 B μ0 μ w a hro hg he hs ha hl hH hM => by
    refine Go.wpIn_seq (Go.wpIn_mono (awp_sound hΓ x _ qr qe α H h ro w0 B μ0 μ w a hro hg he hs ha hl hH hM) ?_)
    intro e a' w' hq
    cases e with
    | normal =>
      obtain ⟨α', H', μ', h1, h2, h3, h4, h5, h6, h7⟩ := hq
      exact awp_sound hΓ y qn qr qe α' H' h1 ro w0 B μ0 μ' w' a' hro hg h2 h3 h4 h5 h6 h7
    | _ => exact hq
  | .cond c t e, qn, qr, qe, α, H, h => fun ro w0 B μ0 μ w a hro hg he hs ha hl hH hM => by
    simp only [awp, condK] at h
    have hc := aeval_rep ha (hg.mono he) c
    split at h
    · rename_i b hb
      rw [hb] at hc
      have hcc : a.eval c = .bool b := by cases hx : a.eval c <;> rw [hx] at hc <;> cases hc; rfl
      refine Go.wpIn_cond_split hcc (fun q => ?_) (fun q => ?_)
      · exact awp_sound hΓ t qn qr qe α H (h.1 q) ro w0 B μ0 μ w a hro hg he hs ha hl hH hM
      · exact awp_sound hΓ e qn qr qe α H (h.2 q) ro w0 B μ0 μ w a hro hg he hs ha hl hH hM
    · exact h.elim
  | .block id c, qn, qr, qe, α, H, h => fun ro w0 B μ0 μ w a hro hg he hs ha hl hH hM => by
    refine Go.wpIn_block (Go.wpIn_mono (awp_sound hΓ c qn qr (fun i α H => if i = id then qn α H else qe i α H) α H h ro w0 B μ0 μ w a hro hg he hs ha hl hH hM) ?_)
    intro e a' w' hq
    cases e with
    | exit i =>
      simp only [conc] at hq
      by_cases hi : i = id
      · simp only [Exit.inBlock, hi, if_true]
        simp only [hi, if_true] at hq
        exact hq
      · simp only [Exit.inBlock, hi, if_false]
        simp only [hi, if_false] at hq
        exact hq
    | _ => exact hq
  | .exit id, qn, qr, qe, α, H, h => fun ro w0 B μ0 μ w a hro hg he hs ha hl hH hM => Go.wpIn_exit ⟨α, H, μ, h, he, hs, ha, hl, hH, hM⟩
  | .ret, qn, qr, qe, α, H, h => fun ro w0 B μ0 μ w a hro hg he hs ha hl hH hM => Go.wpIn_ret ⟨α, H, μ, h, he, hs, ha, hl, hH, hM⟩
  | .region id ops false, qn, qr, qe, α, H, h => fun ro w0 B μ0 μ w a hro hg he hs ha hl hH hM =>
    Go.wpIn_region_list (awpOps_sound (Q := conc X w0 B N μ0 qn qr qe) hΓ (fun a' w' hq => hq) hg ops.toList α H μ w a he hs ha hl hH hM h)
  | .region id ops true, qn, qr, qe, α, H, h => h
  | .loop c, qn, qr, qe, α, H, h => h
  | .rangeFunc f ps a b, qn, qr, qe, α, H, h => h
  | .scope c, qn, qr, qe, α, H, h => h
  | .label l, qn, qr, qe, α, H, h => h
  | .goto l, qn, qr, qe, α, H, h => h
  | .refuse s, qn, qr, qe, α, H, h => h

end Go.Alt

/- The abstract layer, part 12: views of a state, loops, entry and exit of a function. No condition. -/
namespace Go.Alt
open Go Go.RowKit

def AHeap.Fresh (H : AHeap) : Prop := ∀ i, H.n ≤ i → H.get i = none
def AHeap.trunc (n : Nat) (H : AHeap) : AHeap := ⟨fun i => if i < n then H.get i else none, n⟩
@[simp] theorem AHeap.n_trunc (n : Nat) (H : AHeap) : (H.trunc n).n = n := rfl
theorem AHeap.get_trunc (n : Nat) (H : AHeap) (i : Nat) : (H.trunc n).get i = if i < n then H.get i else none := rfl
theorem AHeap.trunc_self {H : AHeap} (h : H.Fresh) {n : Nat} (hn : n = H.n) : H.trunc n = H := by
  subst hn
  cases H with
  | mk get n =>
    simp only [AHeap.trunc, AHeap.mk.injEq, and_true]
    funext i
    split
    · rfl
    · exact (h i (by simp only at *; omega)).symm
theorem AHeap.trunc_push {H : AHeap} {n : Nat} (h : n ≤ H.n) (blk : ABlock) : (H.push blk).trunc n = H.trunc n := by
  simp only [AHeap.trunc, AHeap.push, AHeap.mk.injEq, and_true]
  funext i
  by_cases hi : i < n
  · simp only [hi, if_true]
    rw [if_neg (by omega)]
  · simp only [hi, if_false]
theorem AHeap.trunc_set (H : AHeap) (n b off : Nat) (v : V) : (H.set b off v).trunc n = (H.trunc n).set b off v := by
  simp only [AHeap.trunc, AHeap.set, AHeap.mk.injEq, and_true]
  funext i
  by_cases hi : i < n <;> by_cases hb : i = b
  · subst hb; simp [hi]
  · simp [hi, hb]
  · subst hb; simp [hi]
  · simp [hi, hb]
theorem AHeap.trunc_mset {H : AHeap} {n b : Nat} (hb : b < n) (es : List (V × V)) : (H.mset b es).trunc n = (H.trunc n).mset b es := by
  simp only [AHeap.trunc, AHeap.mset, AHeap.mk.injEq, and_true]
  funext i
  by_cases hi : i = b
  · subst hi; simp [hb]
  · simp [hi]
theorem AHeap.trunc_tip {H : AHeap} {n b : Nat} (hb : b < n) (k : Nat) : (H.tip b k).trunc n = (H.trunc n).tip b k := by
  simp only [AHeap.trunc, AHeap.tip, AHeap.mk.injEq, and_true]
  funext i
  by_cases hi : i = b
  · subst hi; simp [hb]
  · simp [hi]

/-- Whatever the second stands for, the first stands for too. -/
def VLe (v u : V) : Prop := ∀ μ x, VRep μ u x → VRep μ v x
theorem VLe.rfl_ (v : V) : VLe v v := fun _ _ h => h
theorem VLe.any_ (v : V) : VLe .any v := fun _ x _ => .any x
theorem VLe.of_eq {v u : V} (h : v = u) : VLe v u := h ▸ VLe.rfl_ v
theorem VLe.own {o o' : Own} {es es' : List (List V)} (h : es = es') (ho : o = o' ∨ o = .shared ∨ (o' = .full ∧ ∃ b, o = .tip b)) : VLe (.slc o es) (.slc o' es') := by
  intro μ x hx
  subst h
  cases hx with
  | slcNil => exact .slcNil o
  | slc _ _ c off len cap sz xs hlen hcap hsz hc hr hown =>
    refine .slc o es c off len cap sz xs hlen hcap hsz hc hr ?_
    rcases ho with rfl | rfl | ⟨rfl, b, rfl⟩
    · exact hown
    · trivial
    · exact .inl hown
/-- An empty slice that is no slice of a row: a nil slice, or one whose room is not known of. -/
theorem VLe.opt_ {v u : V} {g : Bool} (hg : g = true) (h : VLe v u) : VLe v (.opt g u) := by
  intro μ x hx
  cases hx with
  | opt _ _ _ h1 _ => exact h μ x (h1 hg)
theorem VLe.optOpt {v u : V} {g : Bool} (h : VLe v u) : VLe (.opt g v) (.opt g u) := by
  intro μ x hx
  cases hx with
  | opt _ _ _ h1 h0 => exact .opt g v x (fun q => h μ x (h1 q)) h0

/-- Every entry of the first stands for what the second has there. -/
def AView : AAct → AAct → Prop
  | [], _ => True
  | (k, v) :: r, α => VLe v (aget α k) ∧ AView r α
theorem AView.get {α α' : AAct} (h : AView α' α) (i : Nat) : VLe (aget α' i) (aget α i) := by
  induction α' with
  | nil => exact VLe.any_ _
  | cons p r ih =>
    obtain ⟨k, v⟩ := p
    simp only [aget]
    split
    · rename_i e; subst e; exact h.1
    · exact ih h.2
def AllLow (n : Nat) : AAct → Prop
  | [] => True
  | (_, v) :: r => Low n v ∧ AllLow n r
theorem AllLow.low {n : Nat} {α : AAct} (h : AllLow n α) : ALow n α := by
  intro i
  induction α with
  | nil => exact .any
  | cons p r ih =>
    obtain ⟨k, v⟩ := p
    simp only [aget]
    split
    · exact h.1
    · exact ih h.2

/-- A heap seen as another: what lies from a number on is dropped, or a row's number is added that has no row yet. -/
structure HView (n0 : Nat) (H H' : AHeap) : Prop where
  floor : n0 ≤ H'.n
  same : ∀ i, i < H'.n → i < H.n → H'.get i = H.get i
  more : ∀ i, i < H'.n → H.n ≤ i → (∀ cs, H'.get i ≠ some (.box cs)) ∧ (∀ es, H'.get i ≠ some (.map es)) ∧ ∀ st p, H'.get i ≠ some (.lp st p)
  fresh : H'.Fresh
  low : LowH H'.n H'

theorem HView.refl {H : AHeap} (h : H.Fresh) (hl : LowH H.n H) {n0 : Nat} (hn : n0 ≤ H.n) : HView n0 H H :=
  ⟨hn, fun _ _ _ => rfl, fun i h1 h2 => by omega, h, hl⟩
theorem HView.trunc {H : AHeap} {n0 n : Nat} (hn : n0 ≤ n) (hle : n ≤ H.n) (hl : LowH n (H.trunc n)) : HView n0 H (H.trunc n) :=
  ⟨hn, fun i h1 _ => by simp only [AHeap.trunc] at h1 ⊢; rw [if_pos h1], fun i h1 h2 => by simp only [AHeap.trunc] at h1; omega, fun i hi => by simp only [AHeap.trunc] at hi ⊢; rw [if_neg (by omega)], hl⟩

theorem Sim.view {w0 : Base} {w : World} {B : Nat} {μ : Mem} {H H' : AHeap} {n0 : Nat} (h : Sim w0 B μ H w) (v : HView n0 H H') : Sim w0 B (μ.low H'.n) H' w := by
  refine ⟨h.below, h.old, h.base, h.imm, v.fresh, ?_, ?_, ?_, ?_, ?_, ?_, h.dfr, ?_, ?_⟩
  · intro b c hb
    simp only [Mem.low] at hb
    split at hb
    · rename_i hlt
      obtain ⟨cs, vs, e, h1, h2, h3, h4⟩ := h.box b c hb
      have hs := v.same b hlt (h.box_lt hb)
      have hg : H'.get b = some (.box cs) := by rw [hs, h1]
      refine ⟨cs, vs, e, hg, h2, ⟨h3.1, fun i hi => (h3.2 i hi).low (LowH.box v.low hg _ (getD_mem hi))⟩, h4⟩
    · cases hb
  · intro b b' c hb hb'
    simp only [Mem.low] at hb hb'
    split at hb <;> split at hb' <;> first | exact h.inj b b' c hb hb' | cases hb | cases hb'
  · intro b t hb
    simp only [Mem.low] at hb
    split at hb
    · rename_i hlt
      obtain ⟨h1, h2, h3, h4, h5, h6⟩ := h.tip b t hb
      refine ⟨by rw [v.same b hlt (h.tip_lt hb), h1], h2, h3, h4, fun b' hq => ?_, h6⟩
      simp only [Mem.low] at hq
      split at hq
      · exact h5 b' hq
      · cases hq
    · cases hb
  · intro b b' t t' hb hb'
    simp only [Mem.low] at hb hb'
    split at hb <;> split at hb' <;> first | exact h.tinj b b' t t' hb hb' | cases hb | cases hb'
  · intro b c hb
    simp only [Mem.low] at hb
    split at hb
    · rename_i hlt
      obtain ⟨es, xs, k, h1, h2, h3, h4⟩ := h.mp b c hb
      have hs := v.same b hlt (h.mp_lt hb)
      have hg : H'.get b = some (.map es) := by rw [hs, h1]
      exact ⟨es, xs, k, hg, h2, h3.low (LowH.map v.low hg), h4⟩
    · cases hb
  · intro b b' c hb hb'
    simp only [Mem.low] at hb hb'
    split at hb <;> split at hb' <;> first | exact h.minj b b' c hb hb' | cases hb | cases hb'
  · intro b c L hb
    simp only [Mem.low] at hb
    split at hb
    · rename_i hlt
      obtain ⟨st, p, h1, h2⟩ := h.lp b c L hb
      have hs := v.same b hlt (h.lp_lt hb)
      exact ⟨st, p, by rw [hs, h1], h2⟩
    · cases hb
  · intro b b' c L L' hb hb'
    simp only [Mem.low] at hb hb'
    split at hb <;> split at hb' <;> first | exact h.linj b b' c L L' hb hb' | cases hb | cases hb'

theorem Ext.low {μ0 μ : Mem} (h : Ext μ0 μ) {n : Nat} (hd : Dom n μ0) : Ext μ0 (μ.low n) :=
  ⟨h.imm, fun b c hb => by simp only [Mem.low]; rw [if_pos (hd.1 b c hb)]; exact h.box b c hb, fun b t hb => by
    obtain ⟨t', h1, h2⟩ := h.tip b t hb
    exact ⟨t', by simp only [Mem.low]; rw [if_pos (hd.2.1 b t hb)]; exact h1, h2⟩, fun b c hb => by simp only [Mem.low]; rw [if_pos (hd.2.2.1 b c hb)]; exact h.mp b c hb, h.dfr, fun b c hb => by simp only [Mem.low]; rw [if_pos (hd.2.2.2 b c hb)]; exact h.lp b c hb⟩
theorem Dom.mono {n m : Nat} (h : n ≤ m) {μ : Mem} (d : Dom n μ) : Dom m μ := ⟨fun b c hb => Nat.lt_of_lt_of_le (d.1 b c hb) h, fun b t hb => Nat.lt_of_lt_of_le (d.2.1 b t hb) h, fun b c hb => Nat.lt_of_lt_of_le (d.2.2.1 b c hb) h, fun b c hb => Nat.lt_of_lt_of_le (d.2.2.2 b c hb) h⟩
theorem Sim.dom {w0 : Base} {w : World} {B : Nat} {μ : Mem} {H : AHeap} (h : Sim w0 B μ H w) : Dom H.n μ := ⟨fun _ _ hb => h.box_lt hb, fun _ _ hb => h.tip_lt hb, fun _ _ hb => h.mp_lt hb, fun _ _ hb => h.lp_lt hb⟩
theorem Dom.of_ext {n : Nat} {μ0 μ : Mem} (h : Ext μ0 μ) (d : Dom n μ) : Dom n μ0 := ⟨fun b c hb => d.1 b c (h.box b c hb), fun b t hb => let ⟨t', h1, _⟩ := h.tip b t hb; d.2.1 b t' h1, fun b c hb => d.2.2.1 b c (h.mp b c hb), fun b c hb => d.2.2.2 b c (h.lp b c hb)⟩

theorem ARep.view {μ : Mem} {N n : Nat} {α α' : AAct} {a : Act} (h : ARep μ N α a) (hv : ∀ i, VLe (aget α' i) (aget α i)) (hl : ALow n α') : ARep (μ.low n) N α' a :=
  ⟨h.1, fun i => (hv i μ _ (h.2 i)).low (hl i)⟩

/-- A state seen as another. -/
structure View (n0 : Nat) (α : AAct) (H : AHeap) (α' : AAct) (H' : AHeap) : Prop where
  heap : HView n0 H H'
  tmps : ∀ i, VLe (aget α' i) (aget α i)
  low : ALow H'.n α'

theorem AWp.view {X : Cx} {N : Nat} {c : Code} {qn qr : Cont} {qe : Nat → Cont} {α α' : AAct} {H H' : AHeap} (h : AWp X N c qn qr qe α' H') (v : View H.n α H α' H') : AWp X N c qn qr qe α H :=
  fun ro w0 B μ0 μ w a hro hg he hs ha _ _ hM =>
    h ro w0 B μ0 (μ.low H'.n) w a hro hg (he.low ((Dom.of_ext he hs.dom).mono v.heap.floor)) (hs.view v.heap) (ha.view v.tmps v.low) v.low v.heap.low (hM.low _)

/-- A loop: each round ends in a state of the family, nearer to its end. -/
theorem AWp_loop {X : Cx} {N : Nat} {c : Code} {qn qr : Cont} {qe : Nat → Cont} {α : AAct} {H : AHeap} {σ : Type} (A : σ → AAct) (Hf : σ → AHeap) (m : σ → Nat) (I : σ → Prop) (s0 : σ) (h0 : I s0)
    (hv : View H.n α H (A s0) (Hf s0))
    (round : ∀ s, I s → AWp X N c (fun α' H' => ∃ s', I s' ∧ m s' < m s ∧ View H.n α' H' (A s') (Hf s')) qr qe (A s) (Hf s)) : AWp X N (.loop c) qn qr qe α H := by
  intro ro w0 B μ0 μ w a hrk hg he hs ha _ _ hM b k cs hro hb hr
  have hd : Dom H.n μ0 := Dom.of_ext he hs.dom
  have key : ∀ n s, m s = n → I s → ∀ (μ : Mem) (w : World) (a : Act), Ext μ0 μ → Sim w0 B μ (Hf s) w → ARep μ N (A s) a → ALow (Hf s).n (A s) → LowH (Hf s).n (Hf s) → Marks μ0 μ a.defers →
      ∃ e a' w', conc X w0 B N μ0 qn qr qe e a' w' ∧ ArrivesIn (Machine.fenced X.P (fen ro)) X.P (lone (b.atR a (.code c :: .inLoop c :: k)) cs w) b k cs e a' w' := by
    intro n
    induction n using Nat.strongRecOn with
    | _ n ih =>
      intro s hn hI μ w a he hs ha hl hH hM
      obtain ⟨e, a₁, w₁, hq, harr⟩ := round s hI ro w0 B μ0 μ w a hrk hg he hs ha hl hH hM b (.inLoop c :: k) cs hro hb hr
      cases e with
      | normal =>
        obtain ⟨α', H', μ', ⟨s', hI', hlt, hv'⟩, h1, h2, h3, h4, h5, h6⟩ := hq
        have hx := h1.low (hd.mono hv'.heap.floor)
        obtain ⟨e₂, a₂, w₂, hq₂, harr₂⟩ := ih (m s') (hn ▸ hlt) s' rfl hI' (μ'.low (Hf s').n) w₁ a₁ hx (h2.view hv'.heap) (h3.view hv'.tmps hv'.low) hv'.low hv'.heap.low (h6.low _)
        exact ⟨e₂, a₂, w₂, hq₂, .of_steps (StepsIn.trans harr (.one (fenced_calm hb hr rfl) stepR_inLoop)) harr₂⟩
      | exit id => exact ⟨.exit id, a₁, w₁, hq, .pass (x := .inLoop c) rfl (fun _ _ => .inl (by simp)) harr⟩
      | goto l => exact ⟨.goto l, a₁, w₁, hq, .pass (x := .inLoop c) rfl (fun _ _ => .inl (by simp)) harr⟩
      | ret => exact ⟨.ret, a₁, w₁, hq, .pass (x := .inLoop c) rfl (fun _ _ => .inl (by simp)) harr⟩
      | panic ch => exact ⟨.panic ch, a₁, w₁, hq, .pass (x := .inLoop c) rfl (fun _ _ => .inl (by simp)) harr⟩
      | outgrown => exact ⟨.outgrown, a₁, w₁, hq, .pass (x := .inLoop c) rfl (fun _ _ => .inl (by simp)) harr⟩
  obtain ⟨e, a', w', hq, harr⟩ := key _ s0 rfl h0 (μ.low (Hf s0).n) w a (he.low (hd.mono hv.heap.floor)) (hs.view hv.heap) (ha.view hv.tmps hv.low) hv.low hv.heap.low (hM.low _)
  exact ⟨e, a', w', hq, .of_steps (.one (fenced_calm hb hr rfl) stepR_loop) harr⟩

/-! Entry and exit. -/

def entryA : Nat → List V → AAct
  | _, [] => []
  | k, v :: r => (k, v) :: entryA (k + 1) r
theorem aget_entryA : ∀ (l : List V) (k i : Nat), aget (entryA k l) i = if k ≤ i then l.getD (i - k) .any else .any
  | [], k, i => by simp [entryA, aget]
  | v :: r, k, i => by
    simp only [entryA, aget]
    split
    · rename_i h; subst h; simp
    · rename_i h
      rw [aget_entryA r (k + 1) i]
      by_cases hk : k ≤ i
      · rw [if_pos (by omega), if_pos hk]
        have : i - k = (i - (k + 1)) + 1 := by omega
        rw [this]; simp
      · rw [if_neg (by omega), if_neg hk]

/-- What a result variable holds. -/
def aresV (X : Cx) (α : AAct) (H : AHeap) : ResultVar → V
  | .tmp t => aget α t
  | .cell a t =>
    match aget α a with
    | .ptr b off =>
      match H.get b with
      | some (.box cs) => loadV X.P t (cs.drop off)
      | _ => .any
    | _ => .any
def aresOk (X : Cx) (α : AAct) (H : AHeap) : ResultVar → Prop
  | .tmp _ => True
  | .cell a t =>
    match aget α a with
    | .ptr b off =>
      match H.get b with
      | some (.box cs) => loadOk X.P t (cs.drop off)
      | _ => False
    | _ => False
def resV : List V → V
  | [v] => v
  | vs => .tup vs
def allOk (X : Cx) (α : AAct) (H : AHeap) : List ResultVar → Prop
  | [] => True
  | r :: rs => aresOk X α H r ∧ allOk X α H rs
/-- The end of a function: what it hands back, and the heap without its own boxes (from a number on). -/
def Fin (X : Cx) (rs : List ResultVar) (n : Nat) (Φ : V → AHeap → Prop) : Cont := fun α H =>
  allOk X α H rs ∧ ∃ v n', VLe v (resV (rs.map (aresV X α H))) ∧ Low n' v ∧ (n' < H.n → LowH n' (H.trunc n')) ∧ (n ≤ n' ∧ n' ≤ H.n) ∧ Φ v (H.trunc n')
theorem LowH.truncAt {H : AHeap} {n : Nat} (h : LowH H.n H) (k : n < H.n → LowH n (H.trunc n)) (hn : n ≤ H.n) : LowH n (H.trunc n) := by
  rcases Nat.lt_or_ge n H.n with h1 | h1
  · exact k h1
  · have : n = H.n := by omega
    subst this
    intro b blk hb
    simp only [AHeap.trunc] at hb
    split at hb
    · exact h b blk hb
    · cases hb

theorem asAddr_run {P : Program} {w : World} {v : Value} {a : Addr} (h : v = .pointer (some a)) : (asAddr v).run P w = .ok a w := by
  subst h; rfl

theorem run_result {X : Cx} {w0 : Base} {w : World} {B N : Nat} {μ : Mem} {α : AAct} {H : AHeap} {a : Act} (hs : Sim w0 B μ H w) (ha : ARep μ N α a) (r : ResultVar) (hok : aresOk X α H r) :
    ∃ x, (match r with | .tmp t => pure (a.tmps.getD t undef) | .cell c t => (do loadVar t (← asAddr (a.tmps.getD c undef)) : Sem Value) : Sem Value).run X.P w = .ok x w ∧ VRep μ (aresV X α H r) x := by
  cases r with
  | tmp t => exact ⟨_, rfl, ha.2 t⟩
  | cell c t =>
    simp only [aresOk] at hok
    simp only [aresV]
    have hc := ha.2 c
    split at hok
    · rename_i b off hb
      split at hok
      · rename_i cs hcs
        rw [hb] at hc
        cases hv : a.tmps.getD c undef <;> rw [hv] at hc <;> cases hc
        rename_i c1 hbox
        obtain ⟨vs, e, g2, g3, g6⟩ := hs.boxCells hbox hcs
        have hcell : ∀ j, j < cs.length → w.cell? ⟨c1, j, none⟩ = some (vs.getD j undef) := fun j hj => by
          have hj' : j < vs.length := Nat.lt_of_lt_of_le hj g3.1
          simp [World.cell?, g2, hj']
        have := run_loadVar_cells (P := X.P) (w := w) (μ := μ) (t := t) (cs := cs.drop off) (c := c1) (o := off) (fun j => vs.getD (off + j) undef) hok
          (fun j hj => ⟨hcell _ (by rw [List.length_drop] at hj; omega), g6 _ (by
            have hj' : off + j < vs.length := by have := g3.1; rw [List.length_drop] at hj; omega
            simp only [List.getD, List.getElem?_eq_getElem hj', Option.getD_some]
            exact List.getElem_mem hj')⟩) (fun j hj => by
            have := g3.2 (off + j) (by rw [List.length_drop] at hj; omega)
            simpa [List.getD, List.getElem?_drop] using this)
        obtain ⟨x, h1, h2⟩ := this
        exact ⟨x, by simpa [asAddr] using h1, h2⟩
      · exact hok.elim
    · exact hok.elim

theorem run_mapM_results {X : Cx} {w0 : Base} {w : World} {B N : Nat} {μ : Mem} {α : AAct} {H : AHeap} {a : Act} (hs : Sim w0 B μ H w) (ha : ARep μ N α a) : ∀ (rs : List ResultVar), allOk X α H rs →
    ∃ xs, (rs.mapM (fun | .tmp t => pure (a.tmps.getD t undef) | .cell c t => (do loadVar t (← asAddr (a.tmps.getD c undef)) : Sem Value) : ResultVar → Sem Value)).run X.P w = .ok xs w ∧ VReps μ (rs.map (aresV X α H)) xs
  | [], _ => ⟨[], rfl, VReps.nil_⟩
  | r :: rs, h => by
    obtain ⟨x, h1, h2⟩ := run_result hs ha r h.1
    obtain ⟨xs, h3, h4⟩ := run_mapM_results hs ha rs h.2
    refine ⟨x :: xs, ?_, VReps.cons_ h2 h4⟩
    rw [List.mapM_cons, Sem.run_bind]
    rw [h1]
    simp only [Result.andThen_ok, Sem.run_bind]
    rw [h3]
    rfl

theorem run_results {X : Cx} {w0 : Base} {w : World} {B N : Nat} {μ : Mem} {α : AAct} {H : AHeap} {a : Act} (hs : Sim w0 B μ H w) (ha : ARep μ N α a) (fn : Func) (hok : allOk X α H fn.results.toList) :
    ∃ x, (results fn a.tmps).run X.P w = .ok x w ∧ VRep μ (resV (fn.results.toList.map (aresV X α H))) x := by
  obtain ⟨xs, h1, h2⟩ := run_mapM_results hs ha _ hok
  refine ⟨(if h : xs.toArray.size = 1 then xs.toArray[0] else .tuple xs.toArray), ?_, ?_⟩
  · unfold results
    rw [Array.mapM_eq_mapM_toList]
    simp only [Sem.run_bind, Sem.run_map]
    exact Eq.trans (congrArg (fun r => (Result.andThen r (fun a w' => Result.ok a.toArray w')).andThen (fun a w' => Sem.run X.P (pure (if h : a.size = 1 then a[0] else Value.tuple a)) w')) h1) rfl
  · generalize fn.results.toList.map (aresV X α H) = vs at h2
    match vs, h2 with
    | [], h2 => rw [h2.of_nil]; exact .tup [] [] rfl (fun i hi => absurd hi (Nat.not_lt_zero i))
    | [v], h2 =>
      obtain ⟨x, ys, rfl, h3, h4⟩ := h2.of_cons
      rw [h4.of_nil]
      exact h3
    | v :: u :: vs, h2 =>
      have hl : xs.length ≠ 1 := by have := h2.1; simp at this; omega
      simp only [List.size_toArray, hl, dif_neg, not_false_iff]
      exact .tup _ _ h2.1 h2.2


/-- A function's contract, from its body. -/
theorem ACalls_of_awp {X : Cx} {f : FuncId} {fn : Func} {c : Code} {args : List V} {H : AHeap} {Φ : V → AHeap → Prop} (hc : Callable X.P f) (hf : X.P.funcs[f]? = some fn) (hb : fn.body = some c) (hn : args.length ≤ fn.ntmps)
    (h : H.Fresh → LowL H.n args → LowH H.n H → AWp X fn.ntmps c (Fin X fn.results.toList H.n Φ) (Fin X fn.results.toList H.n Φ) (fun _ _ _ => False) (entryA 0 args) H) : ACalls X f args H Φ := by
  refine ⟨hc, fun w0 B μ w vals hs hg hr hl hH => callsIn_wide.1 (callsIn_of_wp_marks (n := 0) hf hb trivial ?_)⟩
  have hsz : vals.length = args.length := hr.1
  have ha : ARep μ fn.ntmps (entryA 0 args) { tmps := vals.toArray ++ Array.replicate (fn.ntmps - vals.toArray.size) undef, defers := [] } := by
    refine ⟨by simp; omega, fun i => ?_⟩
    rw [aget_entryA]
    simp only [Nat.zero_le, if_true, Nat.sub_zero]
    by_cases hi : i < args.length
    · have h1 := hr.2 i hi
      have h2 : (vals.toArray ++ Array.replicate (fn.ntmps - vals.toArray.size) undef).getD i undef = vals.getD i undef := by
        have hi' : i < vals.length := by omega
        simp [Array.getD, List.getD, hi']
        omega
      rw [h2]
      exact h1
    · simp [List.getD, List.getElem?_eq_none (Nat.le_of_not_lt hi)]
      exact .any _
  have hal : ALow H.n (entryA 0 args) := fun i => by
    rw [aget_entryA]
    split
    · exact LowL.getD hl _
    · exact .any
  refine Go.wpIn_mono (h hs.fresh hl hH none w0 B μ μ w _ (RoOk.none_ _) hg (Ext.refl μ) hs ha hal hH (Marks.nil_ _ _)) ?_
  have leave : ∀ (cs : List Nat) (μ' : Mem) (w' : World) (α' : AAct) (H' : AHeap) (a' : Act), cs.Nodup → (∀ c ∈ cs, μ'.dfr c = true ∧ μ.dfr c = false) → Fin X fn.results.toList H.n Φ α' H' → LowH H'.n H' → Ext μ μ' → Sim w0 B μ' H' w' → ARep μ' fn.ntmps α' a' →
      LeavesInM Fence.wide 0 X.P fn a'.tmps (fun e w' => ∃ v x μ' H', e = Ending.returned x ∧ VRep μ' v x ∧ Ext μ μ' ∧ Sim w0 B μ' H' w' ∧ (Low H'.n v ∧ LowH H'.n H' ∧ H.n ≤ H'.n) ∧ Φ v H') (cs.map fun c => { target := .collected c, args := #[] }) .returning w' := by
    intro cs
    induction cs with
    | nil =>
      intro μ' w' α' H' a' _ _ ⟨k1, v, n', kv, k2, k3, k4, k5⟩ hLH h1 h2 h3
      obtain ⟨x, e1, e2⟩ := run_results h2 h3 fn k1
      exact ⟨x, e1, v, x, μ'.low n', H'.trunc n', rfl, (kv _ _ e2).low k2, h1.low (hs.dom.mono k4.1), h2.view (HView.trunc (Nat.le_refl _) k4.2 (hLH.truncAt k3 k4.2)), ⟨k2, hLH.truncAt k3 k4.2, k4.1⟩, k5⟩
    | cons c cs ih =>
      intro μ' w' α' H' a' hnd hc hfin hLH h1 h2 h3
      rw [List.nodup_cons] at hnd
      have hc0 := hc c (by simp)
      have hrun : (Instr.takeDeferred c).run X.P w' = .ok [] { w' with heap := w'.heap.setIfInBounds c (.deferred none) } := by
        have := (h2.dfr c hc0.1).1
        simp [Instr.takeDeferred, getObj, setObj, Sem.run_bind, Sem.run, this, Result.andThen]
      refine ⟨by simp, .inl ⟨c, _, rfl, hrun, ?_⟩⟩
      refine ih (μ'.dropDfr c) _ α' H' a' hnd.2 (fun c' hc' => ?_) hfin hLH (h1.dropDfr hc0.2) (h2.dropDfr hc0.1 _) ⟨h3.1, fun i => (h3.2 i).dropDfr⟩
      have hne : c' ≠ c := by rintro rfl; exact hnd.1 hc'
      have := hc c' (by simp [hc'])
      simp [Mem.dropDfr, hne, this.1, this.2]
  have fin : ∀ a' w', Post X w0 B fn.ntmps μ (Fin X fn.results.toList H.n Φ) a' w' → LeavesInM Fence.wide 0 X.P fn a'.tmps (fun e w' => ∃ v x μ' H', e = Ending.returned x ∧ VRep μ' v x ∧ Ext μ μ' ∧ Sim w0 B μ' H' w' ∧ (Low H'.n v ∧ LowH H'.n H' ∧ H.n ≤ H'.n) ∧ Φ v H') a'.defers .returning w' := by
    intro a' w' ⟨α', H', μ', k, h1, h2, h3, h4, h5, cs, m1, m2, m3⟩
    rw [m2]
    exact leave cs μ' w' α' H' a' m1 m3 k h5 h1 h2 h3
  intro e a' w' hq
  cases e with
  | normal => exact fin a' w' hq
  | ret => exact fin a' w' hq
  | exit id => obtain ⟨α', H', μ', k, _⟩ := hq; exact k.elim
  | _ => exact hq.elim

/-! Arguments seen as others. -/
def AllLe : List V → List V → Prop
  | [], [] => True
  | v :: vs, u :: us => VLe v u ∧ AllLe vs us
  | _, _ => False
theorem AllLe.reps {μ : Mem} : ∀ {vs us : List V} {xs : List Value}, AllLe vs us → VReps μ us xs → VReps μ vs xs
  | [], [], _, _, h => h
  | v :: vs, u :: us, xs, h, hx => by
    obtain ⟨x, ys, rfl, h1, h2⟩ := hx.of_cons
    exact VReps.cons_ (h.1 μ x h1) (h.2.reps h2)
theorem AllLe.refl_ : ∀ vs : List V, AllLe vs vs
  | [] => trivial
  | v :: vs => ⟨VLe.rfl_ v, AllLe.refl_ vs⟩
theorem ACalls.args {X : Cx} {f : FuncId} {args args' : List V} {H : AHeap} {Φ : V → AHeap → Prop} (h : ACalls X f args' H Φ) (hv : AllLe args' args) (hl : LowL H.n args → LowL H.n args') : ACalls X f args H Φ :=
  ⟨h.1, fun w0 B μ w vals hs hg hr l1 l2 => h.2 w0 B μ w vals hs hg (hv.reps hr) (hl l1) l2⟩
theorem PureCall.args {X : Cx} {f : FuncId} {args args' : List V} {r : V} (h : PureCall X f args' r) (hv : AllLe args' args) (hl : LowL 0 args') : PureCall X f args r :=
  fun H => (h H).args hv fun _ => hl.mono (Nat.zero_le _)

end Go.Alt

/- The abstract layer, part 13: what an operation looks at in the heap. No condition. -/
namespace Go.Alt
open Go Go.RowKit

def SameAt (H H' : AHeap) (rd : List (Nat × Nat)) : Prop := ∀ k ∈ rd, H'.get k.1 = H.get k.1

theorem elemsV_heap {H H' : AHeap} {x : V} {es : List (List V)} {rd : List (Nat × Nat)} (h : elemsV H x = some (es, rd)) (hs : SameAt H H' rd) : elemsV H' x = some (es, rd) := by
  unfold elemsV at h ⊢
  split at h
  · exact h
  · rename_i b off len size
    split at h
    · rename_i cs hcs
      split at h
      · rename_i hle
        injection h with h
        injection h with h1 h2
        subst h1; subst h2
        have := hs (b, off) (by simp [keys])
        simp only at this
        simp only [this, hcs, hle, if_true]
      · cases h
    · cases h
  · cases h

theorem appendR_heap {P : Program} {hint : Hint} {nid : Nat} {t : TypeId} {H H' : AHeap} {s x : V} (hok : (appendR P hint nid t H s x).ok) (hs : SameAt H H' (appendR P hint nid t H s x).reads) :
    appendR P hint nid t H' s x = appendR P hint nid t H s x := by
  unfold appendR at hok hs ⊢
  cases he : elemOf P t with
  | none => simp only [he, fail] at hok
  | some e =>
    simp only [he] at hok hs ⊢
    cases hel : elemsV H x with
    | none => simp only [hel, fail] at hok
    | some p =>
      obtain ⟨ys, rd⟩ := p
      simp only [hel] at hok hs ⊢
      cases s with
      | slc o es =>
        cases o with
        | shared => exact hok.elim
        | full =>
          cases hint <;> simp only at hs ⊢ <;> rw [elemsV_heap hel hs]
        | tip b =>
          simp only at hok hs ⊢
          cases hb : H.get b with
          | none => simp only [hb] at hok; exact hok.elim
          | some blk =>
            cases blk with
            | box cs => simp only [hb] at hok; exact hok.elim
            | map cs => simp only [hb] at hok; exact hok.elim
            | lp _ _ => simp only [hb] at hok; exact hok.elim
            | tip m =>
              simp only [hb] at hok hs
              have h1 := hs (b, 0) (by simp)
              simp only at h1
              rw [elemsV_heap hel (fun k hk => hs k (by simp [hk])), h1, hb]
      | _ => exact hok.elim

theorem convR_heap {P : Program} {H H' : AHeap} {a b : TypeId} {x : V} (hok : (convR P H a b x).ok) (hs : SameAt H H' (convR P H a b x).reads) : convR P H' a b x = convR P H a b x := by
  revert hok hs
  unfold convR
  split
  · exact fun _ _ => rfl
  · exact fun _ _ => rfl
  · intro hok hs
    split at hok
    · rename_i es rd hi hel
      simp only [hi, hel] at hs hok ⊢
      split at hok
      · rename_i bs hbs
        simp only [hbs] at hs
        simp only [elemsV_heap hel hs, hbs]
      · exact hok.elim
    · exact hok.elim
  · exact fun h => h.elim

theorem lookupR_heap {P : Program} {H H' : AHeap} {t : TypeId} {m k : V} {c : Bool} (hok : (lookupR P H t m k c).ok) (hs : SameAt H H' (lookupR P H t m k c).reads) : lookupR P H' t m k c = lookupR P H t m k c := by
  unfold lookupR at hok hs ⊢
  cases h0 : mapOf P t with
  | none => rfl
  | some p =>
    simp only [h0] at hok hs ⊢
    cases m with
    | mp b =>
      simp only at hok hs ⊢
      have key : H'.get b = H.get b := by
        cases h1 : H.get b with
        | none => simp only [h1] at hok; exact hok.elim
        | some blk =>
          cases blk with
          | box cs => simp only [h1] at hok; exact hok.elim
          | tip n => simp only [h1] at hok; exact hok.elim
          | lp _ _ => simp only [h1] at hok; exact hok.elim
          | map es =>
            simp only [h1] at hok hs
            rw [← h1]
            cases h2 : mfind k es 0 with
            | none => simp only [h2] at hok; exact hok.elim
            | some r =>
              cases r with
              | some q => simp only [h2] at hs; exact hs (b, 0) (by simp)
              | none =>
                simp only [h2] at hs hok
                cases h3 : zeroV P p.2 with
                | none => simp only [h3] at hok; exact hok.elim
                | some z => simp only [h3] at hs; exact hs (b, 0) (by simp)
      simp only [key]
    | _ => rfl
theorem mupR_heap {P : Program} {H H' : AHeap} {t : TypeId} {m k v : V} (hok : (mupR P H t m k v).ok) (hs : SameAt H H' (mupR P H t m k v).reads) : mupR P H' t m k v = mupR P H t m k v := by
  unfold mupR at hok hs ⊢
  cases h0 : mapOf P t with
  | none => rfl
  | some p =>
    simp only [h0] at hok hs ⊢
    cases m with
    | mp b =>
      simp only at hok hs ⊢
      have key : H'.get b = H.get b := by
        cases h1 : H.get b with
        | none => simp only [h1] at hok; exact hok.elim
        | some blk =>
          cases blk with
          | box cs => simp only [h1] at hok; exact hok.elim
          | tip n => simp only [h1] at hok; exact hok.elim
          | lp _ _ => simp only [h1] at hok; exact hok.elim
          | map es =>
            simp only [h1] at hok hs
            rw [← h1]
            cases h2 : mfind k es 0 with
            | none => simp only [h2] at hok; exact hok.elim
            | some r =>
              cases r with
              | some q => simp only [h2] at hs; exact hs (b, 0) (by simp)
              | none => simp only [h2] at hs; exact hs (b, 0) (by simp)
      simp only [key]
    | _ => rfl

/-- An operation does alike in a heap that is the same where it looks. -/
theorem arec_heap {X : Cx} {hint : Hint} {nid : Nat} {ρ : Operand → V} {H H' : AHeap} (op : Op) (hok : (arec X hint nid ρ H op).ok) (hs : SameAt H H' (arec X hint nid ρ H op).reads) :
    arec X hint nid ρ H' op = arec X hint nid ρ H op := by
  cases op <;> simp only [arec] at hok hs ⊢
  case load t a =>
    split at hok
    · rename_i b off hb
      split at hok
      · rename_i cs hcs
        simp only [hb, hcs] at hs ⊢
        have := hs (b, off) (by simp [keys])
        simp only at this
        simp only [this, hcs]
      · exact hok.elim
    · rfl
    · exact hok.elim
  case store t a x =>
    split at hok
    · rename_i b off hb
      split at hok
      · rename_i cs hcs
        simp only [hb, hcs] at hs ⊢
        have := hs (b, off) (by simp [keys])
        simp only at this
        simp only [this, hcs]
      · exact hok.elim
    · exact hok.elim
  case convert a b x => exact convR_heap hok hs
  case makeMap t r => cases r <;> rfl
  case lookup t m k c => exact lookupR_heap hok hs
  case mapUpdate t m k v => exact mupR_heap hok hs
  case insert t m k v => exact mupR_heap hok hs
  case call c =>
    obtain ⟨callee, args, ts⟩ := c
    cases callee with
    | builtin b =>
      simp only at hok hs ⊢
      generalize args.toList.map ρ = vs at hok hs ⊢
      revert hok hs
      unfold builtinR
      split <;> intro hok hs <;> try rfl
      rename_i t t' s x _
      by_cases ht : t = t'
      · simp only [ht, if_true] at hok hs ⊢
        exact appendR_heap hok hs
      · simp only [ht, if_false] at hok
        exact hok.elim
    | _ => exact hok.elim

theorem arec_nid {X : Cx} {hint : Hint} {nid nid' : Nat} {ρ : Operand → V} {H : AHeap} (op : Op) (h : newIn (arec X hint nid ρ H op).effs = false) : arec X hint nid' ρ H op = arec X hint nid ρ H op := by
  cases op <;> simp only [arec] at h ⊢
  case alloc => cases h
  case makeMap t r =>
    cases r with
    | none => cases h
    | some x => rfl
  case box => cases h
  case buildSlice t n ps =>
    cases he : elemOf X.P t with
    | none => rfl
    | some e =>
      simp only [he] at h ⊢
      cases hes : elemsOf (szOf X.P e) 0 (ps.toList.map fun p => (p.1, ρ p.2)) with
      | none => rfl
      | some es =>
        simp only [hes] at h ⊢
        cases hint <;> simp only [must] at h ⊢
        cases h
  case makeSlice =>
    revert h
    split
    · intro h; cases h
    · exact fun _ => rfl
  case call c =>
    obtain ⟨callee, args, ts⟩ := c
    cases callee with
    | builtin b =>
      simp only at h ⊢
      generalize args.toList.map ρ = vs at h ⊢
      revert h
      unfold builtinR
      split <;> intro h <;> try rfl
      rename_i t t' s x _
      by_cases ht : t = t'
      · simp only [ht, if_true] at h ⊢
        revert h
        unfold appendR
        split
        · split
          · intro h
            cases hint <;> simp only [newIn] at h ⊢ <;> cases h
          · exact fun _ => rfl
          · exact fun _ => rfl
        · exact fun _ => rfl
      · simp only [ht, if_false]
    | _ => rfl

end Go.Alt
