/- The abstract layer over the model's runs, group D: lemmas for the walks. No condition. -/
import Derived.Test.YtdcdjjdklhlnlaaDoorAltC
import Derived.LoopNIn

/- The abstract layer, part 24b: a call that only looks at its caller's blocks: the whole memory stays as it is meanwhile. No condition. -/
namespace Go.Alt
open Go Go.RowKit

/-- All cells of a world are taken to stay. -/
def frzMem (w : World) : Mem :=
  ⟨fun c o => match w.cell? ⟨c, o, none⟩ with | some x => if x.oneCell' = true then some x else none | none => none, fun _ => none, fun _ => none, fun _ => none, fun _ => false, fun _ => none⟩
theorem frzMem_imm {w : World} {c o : Nat} {x : Value} (h : w.cell? ⟨c, o, none⟩ = some x) (h1 : x.oneCell' = true) : (frzMem w).imm c o = some x := by
  simp only [frzMem, h, h1, if_true]
theorem sim_frz (w : World) : Sim ⟨w, (frzMem w).imm⟩ w.heap.size (frzMem w) AHeap.nil w where
  below := Below.refl _ _
  old := fun _ _ _ _ hx => hx
  base := Nat.le_refl _
  imm := fun c o x hx => by
    simp only [frzMem] at hx
    split at hx
    · rename_i y hy
      split at hx
      · cases hx; exact ⟨hy, by assumption⟩
      · cases hx
    · cases hx
  fresh := fun _ _ => rfl
  box := fun b c hb => by cases hb
  inj := fun b b' c hb => by cases hb
  tip := fun b t hb => by cases hb
  tinj := fun b b' t t' hb => by cases hb
  mp := fun b c hb => by cases hb
  minj := fun b b' c hb => by cases hb
  dfr := fun c hc => by cases hc
  lp := fun b c L hb => by cases hb
  linj := fun b b' c L L' hb => by cases hb

/-- A value as what it stands for while nothing is written. -/
def frz (H : AHeap) : Nat → V → V
  | 0, _ => .any
  | d + 1, v =>
    match v with
    | .ptr b off => match H.get b with | some (.box cs) => .pin ((cs.drop off).map (frz H d)) | _ => .any
    | .msl b off len size => match H.get b with | some (.box cs) => if off + len * size ≤ cs.length then .slc .shared ((chunks size len (cs.drop off)).map (·.map (frz H d))) else .any | _ => .any
    | .slc _ es => .slc .shared (es.map (·.map (frz H d)))
    | .agg cs => .agg (cs.map (frz H d))
    | .tup vs => .tup (vs.map (frz H d))
    | .pin cs => .pin (cs.map (frz H d))
    | .fn f a c => .fn f (a.map (frz H d)) (c.map (frz H d))
    | .opt g v => .opt g (frz H d v)
    | .mp _ => .any
    | .yld _ => .any
    | v => v
/-- The blocks that are looked at. -/
def frzK (H : AHeap) : Nat → V → List Nat
  | 0, _ => []
  | d + 1, v =>
    match v with
    | .ptr b off => b :: match H.get b with | some (.box cs) => (cs.drop off).flatMap (frzK H d) | _ => []
    | .msl b off len size => b :: match H.get b with | some (.box cs) => if off + len * size ≤ cs.length then (chunks size len (cs.drop off)).flatMap (·.flatMap (frzK H d)) else [] | _ => []
    | .slc _ es => es.flatMap (·.flatMap (frzK H d))
    | .agg cs => cs.flatMap (frzK H d)
    | .tup vs => vs.flatMap (frzK H d)
    | .pin cs => cs.flatMap (frzK H d)
    | .fn _ a c => a.flatMap (frzK H d) ++ c.flatMap (frzK H d)
    | .opt _ v => frzK H d v
    | _ => []
theorem getD_map {α β : Type} (f : α → β) (l : List α) (i : Nat) (a : α) (b : β) (h : i < l.length) : (l.map f).getD i b = f (l.getD i a) := by
  simp [List.getD, h]
theorem chunks_getD (size : Nat) : ∀ (n : Nat) (cs : List V) (i : Nat), i < n → (chunks size n cs).getD i [] = (cs.drop (i * size)).take size
  | 0, _, i, h => by omega
  | n + 1, cs, 0, _ => by simp [chunks]
  | n + 1, cs, i + 1, h => by
    simp only [chunks, List.getD_cons_succ]
    rw [chunks_getD size n (cs.drop size) i (by omega), List.drop_drop]
    congr 2
    rw [Nat.succ_mul]; omega
theorem frz_rep {w0 : Base} {w : World} {B : Nat} {μ : Mem} {H : AHeap} (hs : Sim w0 B μ H w) : ∀ (d : Nat) (v : V) (x : Value), VRep μ v x → VRep (frzMem w) (frz H d v) x
  | 0, v, x, _ => .any x
  | d + 1, v, x, h => by
    have ih := frz_rep hs d
    cases h with
    | any x => exact .any x
    | bool b => exact .bool b
    | int k n => exact .int k n
    | str s => exact .str s
    | nilFn => exact .nilFn
    | nilPtr => exact .nilPtr
    | nilIf => exact .nilIf
    | con => exact .con _
    | fn f fs cs fs' cs' hf hc h1 h2 =>
      refine .fn f _ _ fs' cs' (by simpa using hf) (by simpa using hc) (fun i hi => ?_) (fun i hi => ?_)
      · rw [getD_map _ _ _ .any _ (by simpa using hi)]; exact ih _ _ (h1 i (by simpa using hi))
      · rw [getD_map _ _ _ .any _ (by simpa using hi)]; exact ih _ _ (h2 i (by simpa using hi))
    | agg cs cs' hl h1 h2 =>
      refine .agg _ cs' (by simpa using hl) (fun i hi => ?_) h2
      rw [getD_map _ _ _ .any _ (by simpa using hi)]; exact ih _ _ (h1 i (by simpa using hi))
    | tup cs cs' hl h1 =>
      refine .tup _ cs' (by simpa using hl) (fun i hi => ?_)
      rw [getD_map _ _ _ .any _ (by simpa using hi)]; exact ih _ _ (h1 i (by simpa using hi))
    | opt g v x h1 h0 => exact .opt g _ x (fun q => ih _ _ (h1 q)) h0
    | mp b c h => exact .any _
    | yld b c L h => exact .any _
    | slcNil o => exact .slcNil _
    | pin cs c off xs hc hr =>
      refine .pin _ c off xs (fun j hj => ?_) (fun j hj => ?_)
      · obtain ⟨k1, k2⟩ := hs.imm _ _ _ (hc j (by simpa using hj)); exact frzMem_imm k1 k2
      · rw [getD_map _ _ _ .any _ (by simpa using hj)]; exact ih _ _ (hr j (by simpa using hj))
    | slc o es c off len cap sz xs hlen hcap hsz hc hr ho =>
      have hi' : ∀ i, i < len → (es.map (·.map (frz H d))).getD i [] = (es.getD i []).map (frz H d) := fun i hi => getD_map _ _ _ [] _ (by omega)
      refine .slc _ _ c off len cap sz xs (by simpa using hlen) hcap (fun i hi => ?_) (fun i j hi hj => ?_) (fun i j hi hj => ?_) trivial
      · rw [hi' i hi, List.length_map]; exact hsz i hi
      · obtain ⟨k1, k2⟩ := hs.imm _ _ _ (hc i j hi hj); exact frzMem_imm k1 k2
      · rw [hi' i hi, getD_map _ _ _ .any _ (by rw [hsz i hi]; exact hj)]; exact ih _ _ (hr i j hi hj)
    | ptr b off c hb =>
      obtain ⟨cs, vs, e, h1, h2, h3, h4, h5, h6⟩ := hs.box b c hb
      simp only [frz, h1]
      refine .pin _ c off (fun j => vs.getD (off + j) undef) (fun j hj => ?_) (fun j hj => ?_)
      · have hj' : off + j < cs.length := by simp at hj; omega
        have hlt : off + j < vs.length := Nat.lt_of_lt_of_le hj' h3.1
        have hv : vs.getD (off + j) undef = vs[off + j] := by simp [List.getD, hlt]
        refine frzMem_imm ?_ (h6 _ ?_)
        · simp only [World.cell?, h2]
          simp [hv, hlt]
        · rw [hv]; exact List.getElem_mem hlt
      · have hj' : off + j < cs.length := by simp at hj; omega
        rw [getD_map _ _ _ .any _ (by simpa using hj)]
        have := h3.2 (off + j) hj'
        simp only [List.getD, List.getElem?_drop] at this ⊢
        exact ih _ _ this
    | msl b off len size c cap hb hcap =>
      obtain ⟨cs, vs, e, h1, h2, h3, h4, h5, h6⟩ := hs.box b c hb
      simp only [frz, h1]
      split
      · rename_i hfit
        have hidx : ∀ i j, i < len → j < size → off + i * size + j < cs.length := fun i j hi hj => by
          have : i * size + size ≤ len * size := by rw [← Nat.succ_mul]; exact Nat.mul_le_mul_right _ hi
          omega
        have hcl : ∀ i, i < len → ((chunks size len (cs.drop off)).getD i []).length = size := fun i hi => by
          rw [chunks_getD _ _ _ _ hi]
          have : i * size + size ≤ len * size := by rw [← Nat.succ_mul]; exact Nat.mul_le_mul_right _ hi
          simp; omega
        have hi' : ∀ i, i < len → ((chunks size len (cs.drop off)).map (·.map (frz H d))).getD i [] = ((chunks size len (cs.drop off)).getD i []).map (frz H d) := fun i hi => getD_map _ _ _ [] _ (by rw [chunks_len]; exact hi)
        refine .slc _ _ c off len cap size (fun i j => vs.getD (off + i * size + j) undef) (by simp [chunks_len]) hcap (fun i hi => ?_) (fun i j hi hj => ?_) (fun i j hi hj => ?_) trivial
        · rw [hi' i hi, List.length_map]; exact hcl i hi
        · have hlt : off + i * size + j < vs.length := Nat.lt_of_lt_of_le (hidx i j hi hj) h3.1
          have hv : vs.getD (off + i * size + j) undef = vs[off + i * size + j] := by simp [List.getD, hlt]
          refine frzMem_imm ?_ (h6 _ ?_)
          · simp only [World.cell?, h2]
            simp [hv, hlt]
          · rw [hv]; exact List.getElem_mem hlt
        · rw [hi' i hi, getD_map _ _ _ .any _ (by rw [hcl i hi]; exact hj), chunks_getD _ _ _ _ hi]
          have := h3.2 _ (hidx i j hi hj)
          have e2 : ((cs.drop off).drop (i * size) |>.take size).getD j .any = cs.getD (off + i * size + j) .any := by
            simp only [List.getD, List.getElem?_take, hj, if_true, List.drop_drop, List.getElem?_drop]
          rw [e2]
          exact ih _ _ this
      · exact .any _
theorem frz_same {H H' : AHeap} : ∀ (d : Nat) (v : V), (∀ b ∈ frzK H d v, H'.get b = H.get b) → frz H' d v = frz H d v
  | 0, v, _ => rfl
  | d + 1, v, h => by
    have lst : ∀ l : List V, (∀ b ∈ l.flatMap (frzK H d), H'.get b = H.get b) → l.map (frz H' d) = l.map (frz H d) := fun l hl =>
      List.map_congr_left fun u hu => frz_same d u fun b hb => hl b (List.mem_flatMap.2 ⟨u, hu, hb⟩)
    have lst2 : ∀ l : List (List V), (∀ b ∈ l.flatMap (·.flatMap (frzK H d)), H'.get b = H.get b) → l.map (·.map (frz H' d)) = l.map (·.map (frz H d)) := fun l hl =>
      List.map_congr_left fun u hu => lst u fun b hb => hl b (List.mem_flatMap.2 ⟨u, hu, hb⟩)
    cases v <;> simp only [frz, frzK] at h ⊢
    case ptr b off =>
      rw [h b (by simp)]
      cases hb : H.get b with
      | none => rfl
      | some blk =>
        cases blk with
        | box cs => simp only; rw [lst _ fun b' hb' => h b' (by simp only [hb]; exact List.mem_cons_of_mem _ hb')]
        | _ => rfl
    case msl b off len size =>
      rw [h b (by simp)]
      cases hb : H.get b with
      | none => rfl
      | some blk =>
        cases blk with
        | box cs =>
          simp only
          split
          · rename_i hfit
            rw [lst2 _ fun b' hb' => h b' (by simp only [hb, hfit, if_true]; exact List.mem_cons_of_mem _ hb')]
          · rfl
        | _ => rfl
    case slc o es => rw [lst2 es h]
    case agg cs => rw [lst cs h]
    case tup cs => rw [lst cs h]
    case pin cs => rw [lst cs h]
    case fn f a c => rw [lst a fun b hb => h b (List.mem_append_left _ hb), lst c fun b hb => h b (List.mem_append_right _ hb)]
    case opt g v => rw [frz_same d v h]

/-- A value without places in memory. -/
def plain : Nat → V → Bool
  | 0, _ => false
  | d + 1, v =>
    match v with
    | .bool _ | .int _ _ | .str _ | .nilFn | .nilPtr | .nilIf => true
    | .agg cs => cs.all (plain d)
    | .tup vs => vs.all (plain d)
    | _ => false
theorem plain_any {μ μ' : Mem} : ∀ (d : Nat) {v : V} {x : Value}, plain d v = true → VRep μ v x → VRep μ' v x
  | 0, _, _, h, _ => by cases h
  | d + 1, v, x, h, hr => by
    have ih := @plain_any μ μ' d
    cases hr <;> simp only [plain] at h <;> try exact Bool.noConfusion h
    case bool b => exact .bool b
    case int k n => exact .int k n
    case str s => exact .str s
    case nilFn => exact .nilFn
    case nilPtr => exact .nilPtr
    case nilIf => exact .nilIf
    case agg cs cs' hl h1 h2 =>
      rw [List.all_eq_true] at h
      exact .agg cs cs' hl (fun i hi => ih (h _ (getD_mem hi)) (h1 i hi)) h2
    case tup cs cs' hl h1 =>
      rw [List.all_eq_true] at h
      exact .tup cs cs' hl (fun i hi => ih (h _ (getD_mem hi)) (h1 i hi))
theorem plain_low {n : Nat} : ∀ (d : Nat) {v : V}, plain d v = true → Low n v
  | 0, _, h => by cases h
  | d + 1, v, h => by
    have ih := @plain_low n d
    cases v <;> simp only [plain] at h <;> try exact Bool.noConfusion h
    case bool b => exact .bool b
    case int k i => exact .int k i
    case str s => exact .str s
    case nilFn => exact .nilFn
    case nilPtr => exact .nilPtr
    case nilIf => exact .nilIf
    case agg cs => rw [List.all_eq_true] at h; exact .agg cs fun v hv => ih (h v hv)
    case tup cs => rw [List.all_eq_true] at h; exact .tup cs fun v hv => ih (h v hv)

/-- A call that only looks. -/
theorem ACalls.frozenG {X : Cx} (hK : ∀ μ, X.K μ) {f : FuncId} {args args' : List V} {r : V} {H : AHeap} (d2 : Nat) (ha : LowL 0 args') (hr : plain d2 r = true)
    (hrep : ∀ {w0 : Base} {B : Nat} {μ : Mem} {w : World} {vals : List Value}, Sim w0 B μ H w → VReps μ args vals → VReps (frzMem w) args' vals) (h : PureCall X f args' r) :
    ACalls X f args H (fun v H' => v = r ∧ H' = H) := by
  refine ⟨(h AHeap.nil).1, fun w0 B μ w vals hs hg hv hl hH => ?_⟩
  have hv' : VReps (frzMem w) args' vals := hrep hs hv
  have hpin : ∀ g cs, X.G g = some cs → VRep (frzMem w) (.pin cs) (.pointer (some ⟨g, 0, none⟩)) := fun g cs hgc => by
    have h1 := (hg.1 g cs hgc).1.bare (.pin _ (hg.1 g cs hgc).2)
    refine h1.mono ⟨fun c o x hx => ?_, ?_, ?_, ?_, ?_, ?_⟩
    · obtain ⟨k1, k2⟩ := hs.imm c o x hx; exact frzMem_imm k1 k2
    · intro b c hb; simp [Mem.bare, Mem.low] at hb
    · intro b c hb; simp [Mem.bare, Mem.low] at hb
    · intro b c hb; simp [Mem.bare, Mem.low] at hb
    · intro c hc; simp [Mem.bare] at hc
    · intro b c hb; simp [Mem.bare, Mem.low] at hb
  have hg' : GRep X (frzMem w) := ⟨fun g cs hgc => ⟨hpin g cs hgc, (hg.1 g cs hgc).2⟩, hK _⟩
  refine ((h AHeap.nil).2 _ _ _ w vals (sim_frz w) hg' hv' ha (fun b blk hb => by cases hb)).mono ?_
  rintro e w' ⟨v, x, μ2, H2, rfl, h1, h2, h3, h4, rfl, rfl⟩
  let μ3 : Mem := { μ with imm := fun c o => if c < w.heap.size then μ.imm c o else μ2.imm c o }
  have he : Ext μ μ3 := ⟨fun c o x hx => by simp only [μ3]; rw [if_pos (hs.imm_block_lt hx)]; exact hx, fun _ _ h => h, fun b t h => ⟨t, h, Nat.le_refl _, fun _ => rfl⟩, fun _ _ h => h, fun _ h => h, fun _ _ h => h⟩
  have hnone : ∀ c o, c < w.heap.size → μ.imm c o = none → μ3.imm c o = none := fun c o hlt hn => by simp only [μ3]; rw [if_pos hlt]; exact hn
  refine ⟨v, x, μ3, H, rfl, plain_any d2 hr h1, he, ?_, ⟨plain_low d2 hr, hH, Nat.le_refl _⟩, rfl, rfl⟩
  have k := h3
  refine ⟨?_, ?_, ?_, ?_, hs.fresh, ?_, hs.inj, ?_, hs.tinj, ?_, hs.minj, ?_, ?_, hs.linj⟩
  · exact hs.below.trans (k.below.mono hs.base)
  · intro c o x hlt hx
    simp only [μ3] at hx
    rw [if_pos (Nat.lt_of_lt_of_le hlt hs.base)] at hx
    exact hs.old c o x hlt hx
  · exact Nat.le_trans hs.base k.below.size
  · intro c o x hx
    simp only [μ3] at hx
    split at hx
    · rename_i hlt
      obtain ⟨k1, k2⟩ := hs.imm c o x hx
      exact ⟨(k.below.cell hlt).trans k1, k2⟩
    · exact k.imm c o x hx
  · intro b c hb
    obtain ⟨cs, vs, e, h1, h2, h3, h4, h5, h6⟩ := hs.box b c hb
    have hlt := hs.box_block_lt hb
    exact ⟨cs, vs, e, h1, (k.below.block c hlt).trans h2, h3.mono he, h4, fun o => hnone c o hlt (h5 o), h6⟩
  · intro b t hb
    obtain ⟨h1, h2, h3, h4, h5, vs, e, h6, h7⟩ := hs.tip b t hb
    have hlt := hs.tip_block_lt hb
    exact ⟨h1, h2, h3, fun o ho => hnone t.c o hlt (h4 o ho), h5, vs, e, (k.below.block t.c hlt).trans h6, h7⟩
  · intro b c hb
    obtain ⟨es, xs, kk, h1, h2, h3, h4⟩ := hs.mp b c hb
    exact ⟨es, xs, kk, h1, (k.below.block c (hs.mp_block_lt hb)).trans h2, h3.mono he, h4⟩
  · intro c hc
    exact ⟨(k.below.block c (hs.dfr_block_lt hc)).trans (hs.dfr c hc).1, (hs.dfr c hc).2⟩
  · intro b c L hb
    obtain ⟨st, p, h1, h2, h3⟩ := hs.lp b c L hb
    exact ⟨st, p, h1, (k.below.block c (hs.lp_block_lt hb)).trans h2, h3⟩
theorem ACalls.frozen {X : Cx} (hK : ∀ μ, X.K μ) {f : FuncId} {args : List V} {r : V} {H : AHeap} (d d2 : Nat) (ha : LowL 0 (args.map (frz H d))) (hr : plain d2 r = true) (h : PureCall X f (args.map (frz H d)) r) :
    ACalls X f args H (fun v H' => v = r ∧ H' = H) :=
  ACalls.frozenG hK d2 ha hr (fun hs hv => ⟨by simpa using hv.1, fun i hi => by
    rw [getD_map _ _ _ .any _ (by simpa using hi)]; exact frz_rep hs d _ _ (hv.2 i (by simpa using hi))⟩) h
theorem RCall.frozen {X : Cx} (hK : ∀ μ, X.K μ) {f : FuncId} {args : List V} {r : V} {H : AHeap} (d d2 : Nat) (ha : LowL 0 (args.map (frz H d))) (hr : plain d2 r = true) (h : PureCall X f (args.map (frz H d)) r) :
    RCall X f args H ((args.flatMap (frzK H d)).map fun b => (b, 0)) r [] := by
  intro H' hs
  have e : args.map (frz H' d) = args.map (frz H d) := List.map_congr_left fun u hu => frz_same d u fun b hb => hs (b, 0) (List.mem_map.2 ⟨b, List.mem_flatMap.2 ⟨u, hu, hb⟩, rfl⟩)
  exact ACalls.frozen hK d d2 (by rw [e]; exact ha) hr (by rw [e]; exact h)
end Go.Alt

/- The abstract layer, part 25: an interpreter: what a function hands back at given arguments is worked out. No condition. -/
namespace Go.Alt
open Go Go.RowKit

/-! Heaps as lists. -/
abbrev LH := List ABlock
def toH (l : LH) : AHeap := ⟨fun i => l[i]?, l.length⟩
theorem toH_nil : toH [] = AHeap.nil := by
  simp only [toH, AHeap.nil]; congr
def appE (l : LH) : Eff → Option LH
  | .new id b => if Nat.beq id l.length then some (l ++ [b]) else none
  | .set id off v => some (l.modify id (ABlock.set off v))
  | .tip id n => if Nat.blt id l.length then some (l.set id (.tip n)) else none
  | .mset id es => if Nat.blt id l.length then some (l.set id (.map es)) else none
def appsL : List Eff → LH → Option LH
  | [], l => some l
  | e :: r, l => match appE l e with | some l' => appsL r l' | none => none
def minE : List Eff → Nat
  | [] => 4294967296
  | e :: r => Nat.min e.blk (minE r)

/-- The blocks below a number are as they were. -/
def Kept (m : Nat) (l l' : LH) : Prop := l.length ≤ l'.length ∧ ∀ i, i < m → i < l.length → l'[i]? = l[i]?
theorem Kept.refl_ (m : Nat) (l : LH) : Kept m l l := ⟨Nat.le_refl _, fun _ _ _ => rfl⟩
theorem Kept.trans {m m' : Nat} {a b c : LH} (h : Kept m a b) (k : Kept m' b c) : Kept (Nat.min m m') a c :=
  ⟨Nat.le_trans h.1 k.1, fun i hi hl => by
    have hi' := Nat.lt_min.1 hi
    exact (k.2 i hi'.2 (Nat.lt_of_lt_of_le hl h.1)).trans (h.2 i hi'.1 hl)⟩
theorem Kept.mono {m m' : Nat} {a b : LH} (h : Kept m a b) (hm : m' ≤ m) : Kept m' a b := ⟨h.1, fun i hi hl => h.2 i (Nat.lt_of_lt_of_le hi hm) hl⟩

theorem appE_spec {l l' : LH} {e : Eff} (h : appE l e = some l') : e.app (toH l) = toH l' ∧ Kept e.blk l l' := by
  cases e with
  | new id b =>
    simp only [appE] at h
    split at h
    · rename_i hb
      have hid := Nat.eq_of_beq_eq_true hb
      cases h
      subst hid
      refine ⟨?_, by simp, fun i _ hl => List.getElem?_append_left hl⟩
      simp only [Eff.app, AHeap.new, toH, List.length_append, List.length_singleton]
      congr 1
      · funext i
        by_cases hi : i = l.length
        · subst hi; simp
        · rw [if_neg hi]
          rcases Nat.lt_or_gt_of_ne hi with hlt | hgt
          · rw [List.getElem?_append_left hlt]
          · rw [List.getElem?_eq_none (by omega), List.getElem?_eq_none (by simp; omega)]
      · omega
    · cases h
  | set id off v =>
    simp only [appE, Option.some.injEq] at h
    subst h
    refine ⟨?_, by simp, fun i hi hl => ?_⟩
    · simp only [Eff.app, AHeap.set, toH, List.length_modify]
      congr 1
      funext i
      rw [List.getElem?_modify]
      by_cases hi : i = id
      · subst hi; simp
      · rw [if_neg hi]; simp [Ne.symm hi]
    · simp only [Eff.blk] at hi
      rw [List.getElem?_modify]
      have : id ≠ i := by omega
      simp [this]
  | tip id n =>
    simp only [appE] at h
    split at h
    · rename_i hb
      have hid := Nat.le_of_ble_eq_true hb
      cases h
      refine ⟨?_, by simp, fun i hi hl => ?_⟩
      · simp only [Eff.app, AHeap.tip, toH, List.length_set]
        congr 1
        funext i
        rw [List.getElem?_set]
        by_cases hi : i = id
        · subst hi; simp; omega
        · rw [if_neg hi, if_neg (Ne.symm hi)]
      · simp only [Eff.blk] at hi
        rw [List.getElem?_set, if_neg (by omega)]
    · cases h
  | mset id es =>
    simp only [appE] at h
    split at h
    · rename_i hb
      have hid := Nat.le_of_ble_eq_true hb
      cases h
      refine ⟨?_, by simp, fun i hi hl => ?_⟩
      · simp only [Eff.app, AHeap.mset, toH, List.length_set]
        congr 1
        funext i
        rw [List.getElem?_set]
        by_cases hi : i = id
        · subst hi; simp; omega
        · rw [if_neg hi, if_neg (Ne.symm hi)]
      · simp only [Eff.blk] at hi
        rw [List.getElem?_set, if_neg (by omega)]
    · cases h
theorem appsL_spec : ∀ {effs : List Eff} {l l' : LH}, appsL effs l = some l' → apps effs (toH l) = toH l' ∧ Kept (minE effs) l l'
  | [], l, l', h => by cases h; exact ⟨rfl, Kept.refl_ _ _⟩
  | e :: r, l, l', h => by
    simp only [appsL] at h
    split at h
    · rename_i l1 h1
      obtain ⟨k1, k2⟩ := appE_spec h1
      obtain ⟨k3, k4⟩ := appsL_spec h
      exact ⟨by simp only [apps]; rw [k1, k3], k2.trans k4⟩
    · cases h

/-! Lowness, worked out. -/
def lowOB (n : Nat) : Own → Bool
  | .tip b => Nat.blt b n
  | _ => true
mutual
def lowVB (n : Nat) : V → Bool
  | .fn _ fs cs => lowLB n fs && lowLB n cs
  | .ptr b _ => Nat.blt b n
  | .pin cs => lowLB n cs
  | .msl b _ _ _ => Nat.blt b n
  | .mp b => Nat.blt b n
  | .slc o es => lowOB n o && lowLLB n es
  | .agg cs => lowLB n cs
  | .tup vs => lowLB n vs
  | .opt g v => !g || lowVB n v
  | .yld b => Nat.blt b n
  | _ => true
def lowLB (n : Nat) : List V → Bool
  | [] => true
  | v :: r => lowVB n v && lowLB n r
def lowLLB (n : Nat) : List (List V) → Bool
  | [] => true
  | c :: r => lowLB n c && lowLLB n r
end
theorem lowOB_ok {n : Nat} {o : Own} (h : lowOB n o = true) : OwnLow n o := by
  cases o <;> simp only [OwnLow]
  exact Nat.le_of_ble_eq_true h
mutual
theorem lowVB_ok {n : Nat} : ∀ {v : V}, lowVB n v = true → Low n v
  | .any, _ => .any
  | .bool _, _ => .bool _
  | .int _ _, _ => .int _ _
  | .str _, _ => .str _
  | .fn _ fs cs, h => by
    simp only [lowVB, Bool.and_eq_true] at h
    exact .fn _ _ _ (lowLB_ok h.1) (lowLB_ok h.2)
  | .nilFn, _ => .nilFn
  | .nilPtr, _ => .nilPtr
  | .nilIf, _ => .nilIf
  | .con _, _ => .con _
  | .ptr _ _, h => .ptr _ _ (by simp only [lowVB] at h; exact Nat.le_of_ble_eq_true h)
  | .pin _, h => .pin _ (by simp only [lowVB] at h; exact lowLB_ok h)
  | .msl _ _ _ _, h => .msl _ _ _ _ (by simp only [lowVB] at h; exact Nat.le_of_ble_eq_true h)
  | .mp _, h => .mp _ (by simp only [lowVB] at h; exact Nat.le_of_ble_eq_true h)
  | .slc _ _, h => by
    simp only [lowVB, Bool.and_eq_true] at h
    exact .slc _ _ (lowOB_ok h.1) (lowLLB_ok h.2)
  | .agg _, h => .agg _ (by simp only [lowVB] at h; exact lowLB_ok h)
  | .tup _, h => .tup _ (by simp only [lowVB] at h; exact lowLB_ok h)
  | .opt g v, h => .opt _ _ fun q => by
    subst q
    simp only [lowVB, Bool.not_true, Bool.false_or] at h
    exact lowVB_ok h
  | .yld _, h => .yld _ (by simp only [lowVB] at h; exact Nat.le_of_ble_eq_true h)
theorem lowLB_ok {n : Nat} : ∀ {l : List V}, lowLB n l = true → ∀ v ∈ l, Low n v
  | [], _, v, hv => by simp at hv
  | u :: r, h, v, hv => by
    simp only [lowLB, Bool.and_eq_true] at h
    rcases List.mem_cons.1 hv with e | hv
    · exact e ▸ lowVB_ok (v := u) h.1
    · exact lowLB_ok h.2 v hv
theorem lowLLB_ok {n : Nat} : ∀ {l : List (List V)}, lowLLB n l = true → ∀ c ∈ l, ∀ v ∈ c, Low n v
  | [], _, c, hc, _, _ => by simp at hc
  | d :: r, h, c, hc, v, hv => by
    simp only [lowLLB, Bool.and_eq_true] at h
    rcases List.mem_cons.1 hc with e | hc
    · exact lowLB_ok (l := d) h.1 v (e ▸ hv)
    · exact lowLLB_ok h.2 c hc v hv
end
def lowMB (n : Nat) : List (V × V) → Bool
  | [] => true
  | (k, v) :: r => lowVB n k && lowVB n v && lowMB n r
theorem lowMB_ok {n : Nat} : ∀ {l : List (V × V)}, lowMB n l = true → LowM n l
  | [], _, p, hp => by simp at hp
  | (k, v) :: r, h, p, hp => by
    simp only [lowMB, Bool.and_eq_true] at h
    rcases List.mem_cons.1 hp with rfl | hp
    · exact ⟨lowVB_ok h.1.1, lowVB_ok h.1.2⟩
    · exact lowMB_ok h.2 p hp
def lowBB (n : Nat) : ABlock → Bool
  | .box cs => lowLB n cs
  | .map es => lowMB n es
  | _ => true
def lowHB (n : Nat) : LH → Bool
  | [] => true
  | b :: r => lowBB n b && lowHB n r
theorem lowHB_ok {n : Nat} {l : LH} (h : lowHB n l = true) : LowH n (toH l) := by
  have key : ∀ (l : LH), lowHB n l = true → ∀ b ∈ l, LowB n b := by
    intro l
    induction l with
    | nil => intro _ b hb; simp at hb
    | cons c r ih =>
      intro h b hb
      simp only [lowHB, Bool.and_eq_true] at h
      rcases List.mem_cons.1 hb with rfl | hb
      · cases b with
        | box cs => exact lowLB_ok h.1
        | map es => exact lowMB_ok h.1
        | tip _ => trivial
        | lp _ _ => trivial
      · exact ih h.2 b hb
  intro i blk hi
  exact key l h blk (List.mem_of_getElem? hi)

/-! A value without the rows of numbers from n on. -/
def lowerO (n : Nat) : Own → Own
  | .tip b => match Nat.blt b n with | true => .tip b | false => .shared
  | o => o
mutual
def lowerV (n : Nat) : V → V
  | .slc o es => .slc (lowerO n o) (lowerLL n es)
  | .agg cs => .agg (lowerL n cs)
  | .tup vs => .tup (lowerL n vs)
  | v => v
def lowerL (n : Nat) : List V → List V
  | [] => []
  | v :: r => lowerV n v :: lowerL n r
def lowerLL (n : Nat) : List (List V) → List (List V)
  | [] => []
  | c :: r => lowerL n c :: lowerLL n r
end
theorem lowerL_length (n : Nat) : ∀ l : List V, (lowerL n l).length = l.length
  | [] => rfl
  | v :: r => by simp only [lowerL, List.length_cons, lowerL_length n r]
theorem lowerLL_length (n : Nat) : ∀ l : List (List V), (lowerLL n l).length = l.length
  | [] => rfl
  | v :: r => by simp only [lowerLL, List.length_cons, lowerLL_length n r]
theorem lowerL_getD (n : Nat) : ∀ (l : List V) (i : Nat), (lowerL n l).getD i .any = lowerV n (l.getD i .any)
  | [], i => by simp [lowerL, lowerV]
  | v :: r, 0 => by simp [lowerL]
  | v :: r, i + 1 => by simpa [lowerL] using lowerL_getD n r i
theorem lowerLL_getD (n : Nat) : ∀ (l : List (List V)) (i : Nat), (lowerLL n l).getD i [] = lowerL n (l.getD i [])
  | [], i => by simp [lowerLL, lowerL]
  | v :: r, 0 => by simp [lowerLL]
  | v :: r, i + 1 => by simpa [lowerLL] using lowerLL_getD n r i
theorem lowerO_ok {μ : Mem} {n : Nat} {o : Own} {c off len cap sz : Nat} (h : OwnOk μ o c off len cap sz) : OwnOk μ (lowerO n o) c off len cap sz := by
  cases o with
  | shared => exact h
  | full => exact h
  | tip b =>
    simp only [lowerO]
    split
    · exact h
    · trivial
theorem lower_le (n : Nat) (v : V) : VLe (lowerV n v) v := by
  intro μ x h
  induction h with
  | slcNil o => exact .slcNil _
  | slc o es c off len cap sz xs hlen hcap hsz hc _ ho ih =>
    refine .slc _ _ c off len cap sz xs (by rw [lowerLL_length]; exact hlen) hcap (fun i hi => by rw [lowerLL_getD, lowerL_length]; exact hsz i hi) hc (fun i j hi hj => ?_) (lowerO_ok ho)
    rw [lowerLL_getD, lowerL_getD]
    exact ih i j hi hj
  | agg cs cs' hl _ h1 ih =>
    refine .agg _ cs' (by rw [lowerL_length]; exact hl) (fun i hi => ?_) h1
    rw [lowerL_getD]
    exact ih i (by rw [lowerL_length] at hi; exact hi)
  | tup cs cs' hl _ ih =>
    refine .tup _ cs' (by rw [lowerL_length]; exact hl) (fun i hi => ?_)
    rw [lowerL_getD]
    exact ih i (by rw [lowerL_length] at hi; exact hi)
  | any x => exact .any x
  | bool b => exact .bool b
  | int k n => exact .int k n
  | str s => exact .str s
  | fn f fs cs fs' cs' hf hc h1 h2 _ _ => exact .fn f fs cs fs' cs' hf hc h1 h2
  | nilFn => exact .nilFn
  | nilPtr => exact .nilPtr
  | nilIf => exact .nilIf
  | con v => exact .con v
  | ptr b off c h => exact .ptr b off c h
  | pin cs c off xs hc h1 _ => exact .pin cs c off xs hc h1
  | msl b off len size c cap h hcap => exact .msl b off len size c cap h hcap
  | mp b c h => exact .mp b c h
  | opt g v x h h0 _ => exact .opt g v x h h0
  | yld b c L h => exact .yld b c L h

/-! Operations. -/
inductive Tgt where
  | fn (f : FuncId)
  | yl (b : Nat)
abbrev Callee := Tgt → List V → LH → Option (V × LH × Nat)
abbrev PCallee := FuncId → List V → LH → Option (V × List (Nat × Nat))
def dstB (N : Nat) (dst : Option Tmp) : Bool := match dst with | some d => Nat.blt d N | none => true
theorem dstB_ok {N : Nat} {dst : Option Tmp} (h : dstB N dst = true) : dstOk N dst := by
  cases dst with
  | none => trivial
  | some d => exact Nat.le_of_ble_eq_true h
def execO (X : Cx) (call : Callee) (hint : Hint) (ρ : Operand → V) (l : LH) : Op → Option (V × LH × Nat)
  | .call ⟨.value f, args, _⟩ =>
    match ρ f with
    | .fn (.func g) first caps => call (.fn g) (first ++ args.toList.map ρ ++ caps) l
    | .yld b => call (.yl b) (args.toList.map ρ) l
    | _ => none
  | op =>
    match okB X hint ρ (toH l) op with
    | true =>
      match appsL (arec X hint l.length ρ (toH l) op).effs l with
      | some l' => some ((arec X hint l.length ρ (toH l) op).val, l', minE (arec X hint l.length ρ (toH l) op).effs)
      | none => none
    | false => none
def coreE (X : Cx) (α : AAct) (x : Operand) : V := (aeval X α x).coreB
def stepO (X : Cx) (call : Callee) (hint : Tmp → Hint) (N : Nat) (ops : Array Oper) (o : Oper) (α : AAct) (l : LH) : Option (AAct × LH × Nat) :=
  match dstB N o.dst with
  | false => none
  | true =>
    match o.guard with
    | none => match execO X call (hint (o.dst.getD 0)) (aeval X α) l o.op with
      | some (v, l', m) => some (aput o.dst v α, l', m)
      | none => none
    | some (j, want) =>
      match guardV want (gtmp ops j α) with
      | some true => match execO X call (hint (o.dst.getD 0)) (coreE X α) l o.op with
        | some (v, l', m) => some (aput o.dst v α, l', m)
        | none => none
      | some false => some (aput o.dst (.opt false (.bool false)) α, l, 4294967296)
      | none => none
def runO (X : Cx) (call : Callee) (hint : Tmp → Hint) (N : Nat) (ops : Array Oper) : List Oper → AAct → LH → Nat → Option (AAct × LH × Nat)
  | [], α, l, m => some (α, l, m)
  | o :: rest, α, l, m =>
    match stepO X call hint N ops o α l with
    | some (α', l', m') => runO X call hint N ops rest α' l' (Nat.min m m')
    | none => none

def CallOk (X : Cx) (call : Callee) : Prop :=
  (∀ f args l v l' m, call (.fn f) args l = some (v, l', m) → ACalls X f args (toH l) (fun v' H' => v' = v ∧ H' = toH l') ∧ Kept m l l') ∧
  ∀ b args l v l' m, call (.yl b) args l = some (v, l', m) → AYields X b args (toH l) (fun v' H' => v' = v ∧ H' = toH l') ∧ Kept m l l'
theorem arec_sub {X1 X : Cx} (s : Sub X1 X) : arec X1 = arec X := by
  obtain ⟨P1, G1, K1, k1⟩ := X1
  obtain ⟨P, G, K, k⟩ := X
  obtain ⟨h1, h2, _⟩ := s
  simp only at h1 h2
  subst h1; subst h2
  rfl
theorem aeval_sub {X1 X : Cx} (s : Sub X1 X) : aeval X1 = aeval X := by
  funext α x
  cases x <;> simp only [aeval]
  rw [s.G]
def PCallOk (X : Cx) (pcall : PCallee) : Prop := ∀ f args l v rd, pcall f args l = some (v, rd) → RCall X f args (toH l) rd v []

theorem execO_spec {X1 X : Cx} (s : Sub X1 X) {call : Callee} (hc : CallOk X1 call) {hint : Hint} {ρ : Operand → V} {l : LH} {o : Oper} {v : V} {l' : LH} {m : Nat} (h : execO X call hint ρ l o.op = some (v, l', m)) :
    astep X1 (tabL []) hint o ρ (toH l) (fun v' H' => v' = v ∧ H' = toH l') ∧ Kept m l l' := by
  have gen : ∀ op : Op, (match okB X hint ρ (toH l) op with
      | true =>
        match appsL (arec X hint l.length ρ (toH l) op).effs l with
        | some l' => some ((arec X hint l.length ρ (toH l) op).val, l', minE (arec X hint l.length ρ (toH l) op).effs)
        | none => none
      | false => none) = some (v, l', m) → ((arec X hint (toH l).n ρ (toH l) op).ok ∧ (arec X hint (toH l).n ρ (toH l) op).val = v ∧ apps (arec X hint (toH l).n ρ (toH l) op).effs (toH l) = toH l') ∧ Kept m l l' := by
    intro op h
    split at h
    · rename_i hok
      split at h
      · rename_i l1 h1
        simp only [Option.some.injEq, Prod.mk.injEq] at h
        obtain ⟨rfl, rfl, rfl⟩ := h
        obtain ⟨k1, k2⟩ := appsL_spec h1
        exact ⟨⟨okB_ok hok, rfl, k1⟩, k2⟩
      · cases h
    · cases h
  unfold astep
  rw [arec_sub s]
  generalize o.op = op at h ⊢
  cases op with
  | call c =>
    obtain ⟨callee, args, ts⟩ := c
    cases callee with
    | value f =>
      simp only [execO] at h
      simp only
      split at h
      · rename_i g first caps hf
        simp only [hf, tabL]
        exact hc.1 _ _ _ _ _ _ h
      · rename_i b hf
        simp only [hf]
        exact hc.2 _ _ _ _ _ _ h
      · cases h
    | _ => exact gen _ h
  | _ => exact gen _ h

section
variable {X1 X : Cx} {w0 : Base} {B N : Nat} {μ0 : Mem}

theorem tab0_ok (X : Cx) : TabOk X (tabL []) := fun _ _ _ h => by cases h
theorem runO_sound (s : Sub X1 X) {ro : Option Nat} {call : Callee} (hc : CallOk X1 call) {hint : Tmp → Hint} {ops : Array Oper} {Q : Exit → Act → World → Prop} {q : Cont} (hQ : ∀ a' w', Post X1 w0 B N μ0 q a' w' → Q .normal a' w') (hg0 : GRep X1 μ0) {α' : AAct} {l' : LH} {m' : Nat} (hq : q α' (toH l')) :
    ∀ (os : List Oper) (α : AAct) (l : LH) (m : Nat) (μ : Mem) (w : World) (a : Act), Ext μ0 μ → Sim w0 B μ (toH l) w → ARep μ N α a → ALow (toH l).n α → LowH (toH l).n (toH l) → Marks μ0 μ a.defers → runO X call hint N ops os α l m = some (α', l', m') → wpListIn (fen ro) 0 X1.P ops Q os a w
  | [], α, l, m, μ, w, a, he, hs, ha, hal, hH, hM, h => by
    simp only [runO, Option.some.injEq, Prod.mk.injEq] at h
    obtain ⟨rfl, rfl, rfl⟩ := h
    exact wpListIn_nil (hQ a w ⟨α, toH l, μ, hq, he, hs, ha, hal, hH, hM⟩)
  | o :: rest, α, l, m, μ, w, a, he, hs, ha, hal, hH, hM, h => by
    have hg1 := hg0.mono he
    have hg := s.grep hg1
    simp only [runO] at h
    split at h
    · rename_i α1 l1 m1 h1
      simp only [stepO] at h1
      split at h1
      · cases h1
      · rename_i hd
        have hd := dstB_ok hd
        refine wpListIn_step fun K hK => ?_
        split at h1
        · rename_i hgd
          rw [if_pos (by simp [Region.wanted, hgd])]
          split at h1
          · rename_i v l2 m2 h2
            simp only [Option.some.injEq, Prod.mk.injEq] at h1
            obtain ⟨rfl, rfl, rfl⟩ := h1
            refine step_sound (tab0_ok X1) hs hg1 (aeval_rep ha hg) (aeval_low hal hg) hH (execO_spec s hc h2).1 ?_
            rintro v' x μ' H' w' k1 k2 k3 ⟨k4, k5, k6⟩ ⟨rfl, rfl⟩
            exact hK _ _ (runO_sound s hc hQ hg0 hq rest _ l2 _ μ' w' _ (he.trans k2) k3 ((ha.mono k2).put hd k1) ((hal.mono k6).put k4 _) k5 (by rw [put_defers]; exact hM.mono k2) h)
          · cases h1
        · rename_i j want hgd
          split at h1
          · rename_i hgv
            have hw := guard_spec ha hgd hgv
            rw [if_pos hw]
            split at h1
            · rename_i v l2 m2 h2
              simp only [Option.some.injEq, Prod.mk.injEq] at h1
              obtain ⟨rfl, rfl, rfl⟩ := h1
              refine step_sound (tab0_ok X1) hs hg1 (fun x => vrep_coreB (aeval_rep ha hg x)) (fun x => low_coreB (aeval_low hal hg x)) hH (execO_spec s hc h2).1 ?_
              rintro v' x μ' H' w' k1 k2 k3 ⟨k4, k5, k6⟩ ⟨rfl, rfl⟩
              exact hK _ _ (runO_sound s hc hQ hg0 hq rest _ l2 _ μ' w' _ (he.trans k2) k3 ((ha.mono k2).put hd k1) ((hal.mono k6).put k4 _) k5 (by rw [put_defers]; exact hM.mono k2) h)
            · cases h1
          · rename_i hgv
            have hw := guard_spec ha hgd hgv
            rw [if_neg (by rw [hw]; simp)]
            simp only [Option.some.injEq, Prod.mk.injEq] at h1
            obtain ⟨rfl, rfl, rfl⟩ := h1
            refine ⟨fun f _ => fen_fn ro f, hK _ _ (runO_sound s hc hQ hg0 hq rest _ l _ μ w _ he hs (ha.put hd (.opt false _ undef (fun q => by cases q) (fun _ => rfl))) (hal.put (.opt _ _ (fun q => by cases q)) _) hH (by rw [put_defers]; exact hM) h)⟩
          · cases h1
    · cases h
theorem runO_kept (s : Sub X1 X) {call : Callee} (hc : CallOk X1 call) {hint : Tmp → Hint} {ops : Array Oper} {α' : AAct} {l' : LH} {m' : Nat} :
    ∀ (os : List Oper) (α : AAct) (l0 l : LH) (m : Nat), Kept m l0 l → runO X call hint N ops os α l m = some (α', l', m') → Kept m' l0 l'
  | [], α, l0, l, m, hk, h => by
    simp only [runO, Option.some.injEq, Prod.mk.injEq] at h
    obtain ⟨rfl, rfl, rfl⟩ := h
    exact hk
  | o :: rest, α, l0, l, m, hk, h => by
    simp only [runO] at h
    split at h
    · rename_i α1 l1 m1 h1
      refine runO_kept s hc rest α1 l0 l1 _ (hk.trans ?_) h
      simp only [stepO] at h1
      split at h1
      · cases h1
      · split at h1
        · split at h1
          · rename_i v l2 m2 h2
            simp only [Option.some.injEq, Prod.mk.injEq] at h1
            obtain ⟨rfl, rfl, rfl⟩ := h1
            exact (execO_spec s hc h2).2
          · cases h1
        · split at h1
          · split at h1
            · rename_i v l2 m2 h2
              simp only [Option.some.injEq, Prod.mk.injEq] at h1
              obtain ⟨rfl, rfl, rfl⟩ := h1
              exact (execO_spec s hc h2).2
            · cases h1
          · simp only [Option.some.injEq, Prod.mk.injEq] at h1
            obtain ⟨rfl, rfl, rfl⟩ := h1
            exact Kept.refl_ _ _
          · cases h1
    · cases h
end

/-! Drawn regions. -/
def gdB (ρ : Operand → V) : List Operand → Bool
  | [] => true
  | x :: r => (ρ x).gd && gdB ρ r
theorem gdB_ok {g : Bool} {ρ : Operand → V} : ∀ {l : List Operand}, (g = true → gdB ρ l = true) → gdAll g ρ l
  | [], _ => trivial
  | x :: r, h => ⟨fun q => by have := h q; simp only [gdB, Bool.and_eq_true] at this; exact this.1, gdB_ok fun q => by have := h q; simp only [gdB, Bool.and_eq_true] at this; exact this.2⟩
/-- What an operation of a drawn region does: value, reads, effects. -/
def recD (X : Cx) (pcall : PCallee) (hint : Hint) (g : Bool) (ρ : Operand → V) (l : LH) : Op → Option (V × List (Nat × Nat) × List Eff)
  | .call ⟨.value f, args, _⟩ =>
    match ρ f with
    | .fn (.func h) first caps =>
      match g with
      | true => match pcall h (first ++ args.toList.map ρ ++ caps) l with | some (v, rd) => some (v, rd, []) | none => none
      | false => some (.any, [], [])
    | _ => none
  | op =>
    match !g || okB X hint ρ (toH l) op with
    | true => some ((arec X hint l.length ρ (toH l) op).val, (arec X hint l.length ρ (toH l) op).reads, (arec X hint l.length ρ (toH l) op).effs)
    | false => none
theorem recD_spec {X1 X : Cx} (s : Sub X1 X) {pcall : PCallee} (hp : PCallOk X1 pcall) {hint : Hint} {g : Bool} {ρ : Operand → V} {l : LH} {o : Oper} {v : V} {rd : List (Nat × Nat)} {es : List Eff} (h : recD X pcall hint g ρ l o.op = some (v, rd, es)) {K : Rec → Prop}
    (hK : ∀ r : Rec, r.val = v → r.reads = rd → r.effs = es → K r) : dstepK X1 (tabL []) hint (toH l).n g o ρ (toH l) K := by
  have gen : ∀ op : Op, (match !g || okB X hint ρ (toH l) op with
    | true => some ((arec X hint l.length ρ (toH l) op).val, (arec X hint l.length ρ (toH l) op).reads, (arec X hint l.length ρ (toH l) op).effs)
    | false => none) = some (v, rd, es) → (g = true → (arec X hint (toH l).n ρ (toH l) op).ok) ∧ K (arec X hint (toH l).n ρ (toH l) op) := by
    intro op h
    split at h
    · rename_i hok
      simp only [Option.some.injEq, Prod.mk.injEq] at h
      obtain ⟨h1, h2, h3⟩ := h
      refine ⟨fun hg => ?_, hK _ h1 h2 h3⟩
      subst hg
      exact okB_ok (by simpa using hok)
    · cases h
  unfold dstepK
  rw [arec_sub s]
  generalize o.op = op at h ⊢
  cases op with
  | call c =>
    obtain ⟨callee, args, ts⟩ := c
    cases callee with
    | value f =>
      simp only [recD] at h
      simp only
      split at h
      · rename_i g1 first caps hf
        simp only [hf, tabL]
        split at h
        · split at h
          · rename_i u rd' hu
            simp only [Option.some.injEq, Prod.mk.injEq] at h
            obtain ⟨rfl, rfl, rfl⟩ := h
            exact ⟨⟨True, u, rd', []⟩, fun _ => ⟨hp _ _ _ _ _ hu, trivial⟩, hK _ rfl rfl rfl⟩
          · cases h
        · simp only [Option.some.injEq, Prod.mk.injEq] at h
          obtain ⟨rfl, rfl, rfl⟩ := h
          exact ⟨⟨True, .any, [], []⟩, fun q => by simp at q, hK _ rfl rfl rfl⟩
      · cases h
    | _ => exact gen _ h
  | _ => exact gen _ h
def footD (i : Nat) (rd : List (Nat × Nat)) (es : List Eff) (acc : List Foot) : List Foot :=
  match rd, es with
  | [], [] => acc
  | rd, es => acc ++ [(i, es.map Eff.blk, rd.map (·.1) ++ es.map Eff.blk)]
def runD (X : Cx) (pcall : PCallee) (hint : Tmp → Hint) (N : Nat) (ops : Array Oper) : List Oper → Nat → AAct → LH → List Foot → Nat → Option (AAct × LH × List Foot × Nat)
  | [], _, α, l, acc, m => some (α, l, acc, m)
  | o :: rest, i, α, l, acc, m =>
    match dstB N o.dst with
    | false => none
    | true =>
      match o.guard with
      | none =>
        match recD X pcall (hint (o.dst.getD 0)) true (aeval X α) l o.op with
        | some (v, rd, es) =>
          match appsL es l with
          | some l' => runD X pcall hint N ops rest (i + 1) (aput o.dst v α) l' (footD i rd es acc) (Nat.min m (minE es))
          | none => none
        | none => none
      | some (j, want) =>
        match guardV want (gtmp ops j α) with
        | none => none
        | some g =>
          match !g || gdB (aeval X α) o.op.operands.toList with
          | false => none
          | true =>
            match recD X pcall (hint (o.dst.getD 0)) g (V.coreOf (aeval X α)) l o.op with
            | none => none
            | some (v, rd, es) =>
              match es with
              | [] => runD X pcall hint N ops rest (i + 1) (aput o.dst (.opt g v) α) l (footD i rd [] acc) m
              | e :: es' =>
                match g with
                | true =>
                  match appsL (e :: es') l with
                  | some l' => runD X pcall hint N ops rest (i + 1) (aput o.dst (.opt true v) α) l' (footD i rd (e :: es') acc) (Nat.min m (minE (e :: es')))
                  | none => none
                | false => runD X pcall hint N ops rest (i + 1) (aput o.dst (.opt false .any) α) l acc m
theorem footD_eq (i : Nat) (r : Rec) (acc : List Foot) : addFoot i r acc = footD i r.reads r.effs acc := rfl
theorem runD_sound {X1 X : Cx} (s : Sub X1 X) {pcall : PCallee} (hp : PCallOk X1 pcall) {hint : Tmp → Hint} {N : Nat} {ops : Array Oper} {K : AAct → AHeap → List Foot → Prop} {α' : AAct} {l' : LH} {acc' : List Foot} {m' : Nat} (hK : K α' (toH l') acc') (l0 : LH) :
    ∀ (os : List Oper) (i : Nat) (α : AAct) (l : LH) (acc : List Foot) (m : Nat), Kept m l0 l → runD X pcall hint N ops os i α l acc m = some (α', l', acc', m') → dOps X1 (tabL []) hint N ops os i α (toH l) acc K ∧ Kept m' l0 l'
  | [], i, α, l, acc, m, hk, h => by
    simp only [runD, Option.some.injEq, Prod.mk.injEq] at h
    obtain ⟨rfl, rfl, rfl, rfl⟩ := h
    exact ⟨hK, hk⟩
  | o :: rest, i, α, l, acc, m, hk, h => by
    unfold runD at h
    unfold dOps
    rw [aeval_sub s]
    split at h
    · cases h
    · rename_i hd
      have hd := dstB_ok hd
      split at h
      · rename_i hgd
        split at h
        · rename_i v rd es h1
          split at h
          · rename_i l1 h2
            obtain ⟨k1, k2⟩ := appsL_spec h2
            obtain ⟨k3, k4⟩ := runD_sound s hp hK l0 rest _ _ l1 _ _ (hk.trans k2) h
            refine ⟨⟨hd, ?_⟩, k4⟩
            simp only [hgd]
            refine recD_spec s hp h1 fun r e1 e2 e3 => ?_
            rw [footD_eq, e1, e2, e3, k1]
            exact k3
          · cases h
        · cases h
      · rename_i j want hgd
        split at h
        · cases h
        · rename_i g hgv
          split at h
          · cases h
          · rename_i hgb
            split at h
            · cases h
            · rename_i v rd es h1
              have hga : gdAll g (aeval X α) o.op.operands.toList := gdB_ok fun q => by subst q; simpa using hgb
              split at h
              · obtain ⟨k3, k4⟩ := runD_sound s hp hK l0 rest _ _ l _ _ hk h
                refine ⟨⟨hd, ?_⟩, k4⟩
                simp only [hgd, hgv, guardK]
                refine ⟨hga, recD_spec s hp h1 fun r e1 e2 e3 => ?_⟩
                rw [footD_eq, e1, e2, e3, effK_nil]
                exact k3
              · rename_i e es'
                split at h
                · split at h
                  · rename_i l1 h2
                    obtain ⟨k1, k2⟩ := appsL_spec h2
                    obtain ⟨k3, k4⟩ := runD_sound s hp hK l0 rest _ _ l1 _ _ (hk.trans k2) h
                    refine ⟨⟨hd, ?_⟩, k4⟩
                    simp only [hgd, hgv, guardK]
                    refine ⟨hga, recD_spec s hp h1 fun r e1 e2 e3 => ?_⟩
                    rw [footD_eq, e1, e2, e3, effK_cons]
                    refine ⟨fun _ => ?_, fun q => by simp at q⟩
                    rw [k1]
                    exact k3
                  · cases h
                · obtain ⟨k3, k4⟩ := runD_sound s hp hK l0 rest _ _ l _ _ hk h
                  refine ⟨⟨hd, ?_⟩, k4⟩
                  simp only [hgd, hgv, guardK]
                  refine ⟨hga, recD_spec s hp h1 fun r e1 e2 e3 => ?_⟩
                  rw [e3, effK_cons]
                  exact ⟨fun q => by simp at q, fun _ => k3⟩
def disjB (a b : List Nat) : Bool := a.all fun x => b.all fun y => !Nat.beq x y
theorem disjB_ok {a b : List Nat} (h : disjB a b = true) : disj a b := by
  intro x hx y hy e
  simp only [disjB, List.all_eq_true] at h
  have := h x hx y hy
  subst e
  simp at this
def footB (cl : List Nat) (p : Foot) : List Foot → Bool
  | [] => true
  | q :: l => ((cl.getD q.1 0).testBit p.1 || (disjB p.2.1 q.2.2 && disjB q.2.1 p.2.2)) && footB cl p l
def pairsB (cl : List Nat) : List Foot → Bool
  | [] => true
  | p :: l => footB cl p l && pairsB cl l
theorem footB_ok {cl : List Nat} {p : Foot} : ∀ {l : List Foot}, footB cl p l = true → footOk cl p l
  | [], _ => trivial
  | q :: l, h => by
    simp only [footB, Bool.and_eq_true, Bool.or_eq_true] at h
    refine ⟨fun hb => ?_, footB_ok h.2⟩
    rcases h.1 with h1 | h1
    · rw [hb] at h1; cases h1
    · exact ⟨disjB_ok h1.1, disjB_ok h1.2⟩
theorem pairsB_ok {cl : List Nat} : ∀ {l : List Foot}, pairsB cl l = true → pairsOk cl l
  | [], _ => trivial
  | p :: l, h => by
    simp only [pairsB, Bool.and_eq_true] at h
    exact ⟨footB_ok h.1, pairsB_ok h.2⟩
end Go.Alt

/- The abstract layer, part 26: the interpreter, through statements and calls. No condition. -/
namespace Go.Alt
open Go Go.RowKit

inductive AEnd where
  | normal
  | ret
  | exit (id : Nat)
def endQ (qn qr : Cont) (qe : Nat → Cont) : AEnd → Cont
  | .normal => qn
  | .ret => qr
  | .exit i => qe i

/-- A frame without what is overwritten. -/
def hasK (i : Nat) : List Nat → Bool
  | [] => false
  | k :: r => Nat.beq i k || hasK i r
def norm1 : V → V
  | .opt true v => v
  | .opt false _ => .opt false (.bool false)
  | v => v
def normG : List Nat → AAct → AAct
  | _, [] => []
  | ks, (k, v) :: r => match hasK k ks with | true => normG ks r | false => (k, norm1 v) :: normG (k :: ks) r
def normA (α : AAct) : AAct := normG [] α
theorem hasK_ok {i : Nat} : ∀ {ks : List Nat}, hasK i ks = true ↔ i ∈ ks
  | [] => by simp [hasK]
  | k :: r => by
    simp only [hasK, Bool.or_eq_true, List.mem_cons, hasK_ok (ks := r)]
    constructor
    · rintro (h | h)
      · exact .inl (Nat.eq_of_beq_eq_true h)
      · exact .inr h
    · rintro (h | h)
      · subst h; exact .inl (by simp)
      · exact .inr h
theorem norm1_le (v : V) : VLe (norm1 v) v := by
  cases v with
  | opt g u =>
    cases g with
    | true => intro μ x h; cases h with | opt _ _ _ h1 _ => exact h1 rfl
    | false => intro μ x h; cases h with | opt _ _ _ _ h0 => exact .opt false _ _ (fun q => by cases q) h0
  | _ => exact VLe.rfl_ _
theorem norm1_low {n : Nat} {v : V} (h : Low n v) : Low n (norm1 v) := by
  cases v with
  | opt g u =>
    cases g with
    | true => cases h with | opt _ _ h1 => exact h1 rfl
    | false => exact .opt _ _ fun q => by cases q
  | _ => exact h
theorem aget_normG (i : Nat) : ∀ (α : AAct) (ks : List Nat), i ∉ ks → aget (normG ks α) i = norm1 (aget α i)
  | [], ks, _ => rfl
  | (k, v) :: r, ks, h => by
    simp only [normG]
    split
    · rename_i hk
      have hk := hasK_ok.1 hk
      have : i ≠ k := fun e => h (e ▸ hk)
      simp only [aget, if_neg this]
      exact aget_normG i r ks h
    · by_cases e : i = k
      · subst e; simp [aget]
      · simp only [aget, if_neg e]
        exact aget_normG i r (k :: ks) (by simp [e, h])
theorem AWp.norm {X : Cx} {N : Nat} {c : Code} {qn qr : Cont} {qe : Nat → Cont} {α : AAct} {H : AHeap} (h : AWp X N c qn qr qe (normA α) H) : AWp X N c qn qr qe α H := by
  refine AWp.facts0 fun hF hL hA => ?_
  have e : ∀ i, aget (normA α) i = norm1 (aget α i) := fun i => aget_normG i α [] (by simp)
  exact h.view ⟨HView.refl hF hL (Nat.le_refl _), fun i => by rw [e]; exact norm1_le _, fun i => by rw [e]; exact norm1_low (hA i)⟩

/-- Loops, round by round. -/
def RWp (X : Cx) (N : Nat) (c : Code) (qn qr : Cont) (qe : Nat → Cont) : Nat → Cont
  | 0 => fun _ _ => False
  | m + 1 => fun α H => AWp X N c (RWp X N c qn qr qe m) qr qe α H
theorem AWp_rounds {X : Cx} {N : Nat} {c : Code} {qn qr : Cont} {qe : Nat → Cont} (m : Nat) {α : AAct} {H : AHeap} (h : RWp X N c qn qr qe m α H) : AWp X N (.loop c) qn qr qe α H := by
  intro ro w0 B μ0 μ w a hro hg he hs ha hl hH hM
  refine wpIn_loop_rounds m ?_
  have key : ∀ (m : Nat) (α : AAct) (H : AHeap) (μ : Mem) (w : World) (a : Act), RWp X N c qn qr qe m α H → Ext μ0 μ → Sim w0 B μ H w → ARep μ N α a → ALow H.n α → LowH H.n H → Marks μ0 μ a.defers →
      Code.roundsIn (fen ro) 0 X.P c (conc X w0 B N μ0 qn qr qe) m a w := by
    intro m
    induction m with
    | zero => intro α H μ w a h; exact h.elim
    | succ m ih =>
      intro α H μ w a h he hs ha hl hH hM
      refine Go.wpIn_mono (h ro w0 B μ0 μ w a hro hg he hs ha hl hH hM) fun e a' w' hq => ?_
      cases e with
      | normal =>
        obtain ⟨α', H', μ', k0, k1, k2, k3, k4, k5, k6⟩ := hq
        exact ih α' H' μ' w' a' k0 k1 k2 k3 k4 k5 k6
      | _ => exact hq
  exact key m α H μ w a h he hs ha hl hH hM

/-! Statements. -/
abbrev Res := Option (AEnd × AAct × LH × Nat)
def minR (m : Nat) : Res → Res
  | some (e, α, l, m') => some (e, α, l, Nat.min m m')
  | none => none
def iterL (body : AAct → LH → Res) : Nat → AAct → LH → Res
  | 0, _, _ => none
  | k + 1, α, l =>
    match body α l with
    | some (.normal, α1, l1, m1) => minR m1 (iterL body k (normA α1) l1)
    | r => r
def drawn (X : Cx) (pcall : PCallee) (hint : Tmp → Hint) (N : Nat) (ops : Array Oper) (α : AAct) (l : LH) : Res :=
  match regOk ops with
  | true =>
    match runD X pcall hint N ops ops.toList 0 α l [] 4294967296 with
    | some (α', l', acc, m) =>
      match pairsB (clOf ops) acc with
      | true => some (.normal, α', l', m)
      | false => none
    | none => none
  | false => none
/-- What calls of the rounds of ranges over functions come to. -/
abbrev Hand := List V → LH → Option (V × LH × Nat)
abbrev Env := Nat → Option Hand
def env0 : Env := fun _ => none
def addEnv (env : Env) (bl : Nat) (h : Hand) : Env := fun b => match Nat.beq b bl with | true => some h | false => env b
def isReady : Option ABlock → Bool
  | some (.lp .ready none) => true
  | _ => false
def isLp : Option ABlock → Bool
  | some (.lp _ _) => true
  | _ => false
def allLt (N : Nat) : List Nat → Bool
  | [] => true
  | p :: r => Nat.blt p N && allLt N r
/-- How much of a heap is kept: what was there, or, where that was written into, all. -/
def keepN (n m n2 : Nat) : Nat := match Nat.ble n m with | true => n | false => n2
def endRnd (n bl m1 : Nat) (jump : Option Code) (l2 : LH) (m2 : Nat) : Option (V × LH × Nat) :=
  match isLp l2[bl]? with
  | true => some (.bool jump.isNone, (l2.take (keepN n (Nat.min m1 m2) l2.length)).set bl (.lp (if jump.isNone then .ready else .done) jump), Nat.min bl (Nat.min m1 m2))
  | false => none
def rnd (ra rb : AAct → LH → Res) (ps : List Tmp) (α : AAct) (bl : Nat) : Hand := fun args l =>
  match Nat.beq args.length ps.length && isReady l[bl]? with
  | true =>
    match ra (putP ps args α) l with
    | some (.normal, α1, l1, m1) =>
      match isReady l1[bl]? with
      | true =>
        match rb α1 (l1.set bl (.lp .busy none)) with
        | some (.normal, _, l2, m2) => endRnd l.length bl m1 none l2 m2
        | some (.ret, _, l2, m2) => endRnd l.length bl m1 (some .ret) l2 m2
        | some (.exit i, _, l2, m2) => endRnd l.length bl m1 (some (.exit i)) l2 m2
        | none => none
      | false => none
    | _ => none
  | false => none
def isBusy : LoopState → Bool
  | .busy => true
  | _ => false
def rangeEnd (bl : Nat) (α : AAct) (l3 : LH) (m3 : Nat) : Res :=
  match l3[bl]? with
  | some (.lp st p) =>
    match isBusy st with
    | true => none
    | false =>
      match p with
      | none => some (.normal, α, (l3.set bl (.lp .exhausted none)).take (keepN bl m3 l3.length), m3)
      | some .ret => some (.ret, α, (l3.set bl (.lp .exhausted (some .ret))).take (keepN bl m3 l3.length), m3)
      | some (.exit i) => some (.exit i, α, (l3.set bl (.lp .exhausted (some (.exit i)))).take (keepN bl m3 l3.length), m3)
      | _ => none
  | _ => none
def runC (X : Cx) (callE : Env → Callee) (pcall : PCallee) (env : Env) (hint : Tmp → Hint) (N lf : Nat) : Code → AAct → LH → Res
  | .skip, α, l => some (.normal, α, l, 4294967296)
  | .seq a b, α, l =>
    match runC X callE pcall env hint N lf a α l with
    | some (.normal, α1, l1, m1) => minR m1 (runC X callE pcall env hint N lf b α1 l1)
    | r => r
  | .cond c t e, α, l =>
    match aeval X α c with
    | .bool true => runC X callE pcall env hint N lf t α l
    | .bool false => runC X callE pcall env hint N lf e α l
    | _ => none
  | .block id c, α, l =>
    match runC X callE pcall env hint N lf c α l with
    | some (.exit i, α1, l1, m1) => match Nat.beq i id with | true => some (.normal, α1, l1, m1) | false => some (.exit i, α1, l1, m1)
    | r => r
  | .exit id, α, l => some (.exit id, α, l, 4294967296)
  | .ret, α, l => some (.ret, α, l, 4294967296)
  | .region _ ops false, α, l =>
    match runO X (callE env) hint N ops ops.toList α l 4294967296 with
    | some (α', l', m) => some (.normal, α', l', m)
    | none => none
  | .region _ ops true, α, l => drawn X pcall hint N ops α l
  | .loop c, α, l => iterL (runC X callE pcall env hint N lf c) lf α l
  | .rangeFunc g ps assign body, α, l =>
    match aeval X α g with
    | .fn (.func gf) first caps =>
      match allLt N ps.toList with
      | true =>
        match callE (addEnv env l.length (rnd (runC X callE pcall env hint N lf assign) (runC X callE pcall env hint N lf body) ps.toList α l.length)) (.fn gf) (first ++ [.yld l.length] ++ caps) (l ++ [.lp .ready none]) with
        | some (_, l3, m3) => rangeEnd l.length α l3 m3
        | none => none
      | false => none
    | _ => none
  | _, _, _ => none

theorem minR_spec {m : Nat} {r : Res} {e : AEnd} {α : AAct} {l : LH} {m' : Nat} (h : minR m r = some (e, α, l, m')) : ∃ m2, r = some (e, α, l, m2) ∧ m' = Nat.min m m2 := by
  cases r with
  | none => cases h
  | some p =>
    obtain ⟨e1, α1, l1, m1⟩ := p
    simp only [minR, Option.some.injEq, Prod.mk.injEq] at h
    obtain ⟨rfl, rfl, rfl, rfl⟩ := h
    exact ⟨m1, rfl, rfl⟩

def SOk (X : Cx) (N : Nat) (c : Code) (α : AAct) (l : LH) (e : AEnd) (α' : AAct) (l' : LH) (m : Nat) : Prop :=
  Kept m l l' ∧ ∀ qn qr qe, endQ qn qr qe e α' (toH l') → AWp X N c qn qr qe α (toH l)

theorem iterL_sound {X : Cx} {N : Nat} {c : Code} {body : AAct → LH → Res} (hb : ∀ α l e α' l' m, body α l = some (e, α', l', m) → SOk X N c α l e α' l' m) :
    ∀ (k : Nat) (α : AAct) (l : LH) (e : AEnd) (α' : AAct) (l' : LH) (m : Nat), iterL body k α l = some (e, α', l', m) → Kept m l l' ∧ ∀ qn qr qe, endQ (fun _ _ => True) qr qe e α' (toH l') → ∃ j, RWp X N c qn qr qe j α (toH l)
  | 0, α, l, e, α', l', m, h => by cases h
  | k + 1, α, l, e, α', l', m, h => by
    simp only [iterL] at h
    split at h
    · rename_i α1 l1 m1 h1
      obtain ⟨m2, h2, rfl⟩ := minR_spec h
      obtain ⟨k1, k2⟩ := hb _ _ _ _ _ _ h1
      obtain ⟨k3, k4⟩ := iterL_sound hb k _ _ _ _ _ _ h2
      refine ⟨k1.trans k3, fun qn qr qe hq => ?_⟩
      obtain ⟨j, hj⟩ := k4 qn qr qe hq
      refine ⟨j + 1, k2 (RWp X N c qn qr qe j) qr qe ?_⟩
      cases j with
      | zero => exact hj.elim
      | succ j => exact AWp.norm hj
    · rename_i hne
      obtain ⟨k1, k2⟩ := hb _ _ _ _ _ _ h
      refine ⟨k1, fun qn qr qe hq => ⟨1, k2 _ qr qe ?_⟩⟩
      cases e with
      | normal => exact absurd h (hne _ _ _)
      | ret => exact hq
      | exit i => exact hq

def EnvOk (X : Cx) (env : Env) : Prop := ∀ b h, env b = some h → ∀ args l v l' m, h args l = some (v, l', m) → AYields X b args (toH l) (fun v' H' => v' = v ∧ H' = toH l') ∧ Kept m l l'
theorem AYields.sub {X' X : Cx} (s : Sub X' X) {b : Nat} {args : List V} {H : AHeap} {Φ : V → AHeap → Prop} (h : AYields X b args H Φ) : AYields X' b args H Φ := by
  intro ro w0 B μ w vals l L hl hs hg hr l1 l2
  rw [s.P]
  exact h ro w0 B μ w vals l L hl hs (s.grep hg) hr l1 l2
theorem EnvOk.sub {X' X : Cx} (s : Sub X' X) {env : Env} (h : EnvOk X env) : EnvOk X' env := fun b hd hb args l v l' m hh => let ⟨h1, h2⟩ := h b hd hb args l v l' m hh; ⟨h1.sub s, h2⟩
theorem env0_ok (X : Cx) : EnvOk X env0 := fun _ _ h => by cases h
theorem Sub.trans {X2 X1 X : Cx} (s : Sub X2 X1) (t : Sub X1 X) : Sub X2 X := ⟨s.P.trans t.P, s.G.trans t.G, fun μ h => t.K μ (s.K μ h)⟩
theorem allLt_ok {N : Nat} : ∀ {ps : List Nat}, allLt N ps = true → ∀ p ∈ ps, p < N
  | [], _, p, hp => by simp at hp
  | q :: r, h, p, hp => by
    simp only [allLt, Bool.and_eq_true] at h
    rcases List.mem_cons.1 hp with rfl | hp
    · exact Nat.le_of_ble_eq_true h.1
    · exact allLt_ok h.2 p hp
theorem isReady_ok {o : Option ABlock} (h : isReady o = true) : o = some (.lp .ready none) := by
  unfold isReady at h
  split at h
  · rfl
  · cases h
theorem isLp_ok {o : Option ABlock} (h : isLp o = true) : ∃ st p, o = some (.lp st p) := by
  unfold isLp at h
  split at h
  · exact ⟨_, _, rfl⟩
  · cases h
theorem lset_toH {l : LH} {b : Nat} (h : b < l.length) (st : LoopState) (p : Option Code) : (toH l).lset b st p = toH (l.set b (.lp st p)) := by
  simp only [AHeap.lset, toH, List.length_set]
  congr 1
  funext i
  rw [List.getElem?_set]
  by_cases e : i = b
  · subst e; simp [h]
  · rw [if_neg e, if_neg (Ne.symm e)]
theorem trunc_toH (n : Nat) (l : LH) (h : n ≤ l.length) : (toH l).trunc n = toH (l.take n) := by
  simp only [AHeap.trunc, toH, List.length_take]
  congr 1
  · funext i
    rw [List.getElem?_take]
  · omega
theorem Kept.setLp {l : LH} {b : Nat} (blk : ABlock) : Kept b l (l.set b blk) := ⟨by simp, fun i hi hl => by rw [List.getElem?_set, if_neg (by omega)]⟩

theorem keepN_spec {n m n2 : Nat} (h : n ≤ n2) : n ≤ keepN n m n2 ∧ keepN n m n2 ≤ n2 ∧ (keepN n m n2 < n2 → keepN n m n2 = n ∧ n ≤ m) := by
  unfold keepN
  split
  · rename_i hb
    exact ⟨Nat.le_refl _, h, fun _ => ⟨rfl, Nat.le_of_ble_eq_true hb⟩⟩
  · exact ⟨h, Nat.le_refl _, fun h => absurd h (Nat.lt_irrefl _)⟩

theorem endRnd_spec {n bl m1 m2 : Nat} {jump : Option Code} {l l1 l2 : LH} {v : V} {l' : LH} {m : Nat} (h : endRnd n bl m1 jump l2 m2 = some (v, l', m)) (hn : n = l.length) (hbl : bl < n)
    (k1 : Kept m1 l l1) (k2 : Kept m2 (l1.set bl (.lp .busy none)) l2) (α : AAct) :
    (LowH n (toH l) → RFin bl n jump (fun v' H' => v' = v ∧ H' = toH l') α (toH l2)) ∧ Kept m l l' := by
  unfold endRnd at h
  split at h
  · rename_i hh
    simp only [Option.some.injEq, Prod.mk.injEq] at h
    obtain ⟨rfl, rfl, rfl⟩ := h
    obtain ⟨st, p, hlp⟩ := isLp_ok hh
    have hle : n ≤ l2.length := by have := k1.1; have := k2.1; simp at this; omega
    have hsame : ∀ i, i < Nat.min m1 m2 → i < n → i ≠ bl → l2[i]? = l[i]? := fun i hi hin hne => by
      have hi' := Nat.lt_min.1 hi
      have h1 : i < l1.length := by have := k1.1; omega
      rw [k2.2 i hi'.2 (by simpa using h1), List.getElem?_set, if_neg (Ne.symm hne), k1.2 i hi'.1 (by omega)]
    obtain ⟨c1, c2, c3⟩ := keepN_spec (m := Nat.min m1 m2) hle
    refine ⟨fun hbe => ⟨keepN n (Nat.min m1 m2) l2.length, ⟨c1, c2⟩, fun hlt => ?_, ⟨st, p, hlp⟩, rfl, ?_⟩, ?_⟩
    · obtain ⟨e1, h2⟩ := c3 hlt
      rw [e1]
      intro b blk hb
      simp only [AHeap.trunc] at hb
      split at hb
      · rename_i hlt
        by_cases e : b = bl
        · subst e
          have : (toH l2).get b = l2[b]? := rfl
          rw [this, hlp] at hb
          injection hb with hb; subst hb; trivial
        · refine hbe b blk ?_
          have := hsame b (Nat.lt_of_lt_of_le hlt h2) hlt e
          simp only [toH] at hb ⊢
          rw [← this]; exact hb
      · cases hb
    · rw [trunc_toH _ _ c2, lset_toH (by simp; omega)]
    · refine ⟨by simp; omega, fun i hi hl => ?_⟩
      have hi' := Nat.lt_min.1 hi
      rw [List.getElem?_set, if_neg (by omega), List.getElem?_take, if_pos (by omega)]
      exact hsame i hi'.2 (by omega) (by omega)
  · cases h

theorem rnd_sound {X : Cx} {N : Nat} {assign body : Code} {ra rb : AAct → LH → Res} (ha : ∀ α l e α' l' m, ra α l = some (e, α', l', m) → SOk X N assign α l e α' l' m) (hb : ∀ α l e α' l' m, rb α l = some (e, α', l', m) → SOk X N body α l e α' l' m)
    {ps : List Tmp} {α : AAct} {bl : Nat} {args : List V} {l : LH} {v : V} {l' : LH} {m : Nat} (h : rnd ra rb ps α bl args l = some (v, l', m)) :
    Round X N ps assign body α bl args (toH l) (fun v' H' => v' = v ∧ H' = toH l') ∧ Kept m l l' := by
  unfold rnd at h
  split at h
  · rename_i hh
    simp only [Bool.and_eq_true] at hh
    have hlen := Nat.eq_of_beq_eq_true hh.1
    have hrd := isReady_ok hh.2
    have hbl : bl < l.length := by
      rcases Nat.lt_or_ge bl l.length with h1 | h1
      · exact h1
      · rw [List.getElem?_eq_none h1] at hrd; cases hrd
    split at h
    · rename_i α1 l1 m1 h1
      obtain ⟨k1, k2⟩ := ha _ _ _ _ _ _ h1
      split at h
      · rename_i hr1
        have hr1 := isReady_ok hr1
        have key : ∀ (e : AEnd) (jump : Option Code) (α2 : AAct) (l2 : LH) (m2 : Nat), rb α1 (l1.set bl (.lp .busy none)) = some (e, α2, l2, m2) → endRnd l.length bl m1 jump l2 m2 = some (v, l', m) →
            (jump = match e with | .normal => none | .ret => some .ret | .exit i => some (.exit i)) →
            Round X N ps assign body α bl args (toH l) (fun v' H' => v' = v ∧ H' = toH l') ∧ Kept m l l' := by
          intro e jump α2 l2 m2 h2 h3 hj
          obtain ⟨k3, k4⟩ := hb _ _ _ _ _ _ h2
          obtain ⟨fin, hkept⟩ := endRnd_spec (l := l) (l1 := l1) h3 rfl hbl k1 k3 α2
          refine ⟨⟨hlen, hrd, AWp.facts0 fun hF hL hA => k2 _ _ _ ⟨hr1, k1.1, ?_⟩⟩, hkept⟩
          rw [lset_toH (by have := k1.1; omega)]
          refine k4 _ _ _ ?_
          have fin := fin hL
          subst hj
          cases e <;> exact fin
        split at h
        · rename_i α2 l2 m2 h2; exact key .normal none α2 l2 m2 h2 h rfl
        · rename_i α2 l2 m2 h2; exact key .ret (some .ret) α2 l2 m2 h2 h rfl
        · rename_i i α2 l2 m2 h2; exact key (.exit i) (some (.exit i)) α2 l2 m2 h2 h rfl
        · cases h
      · cases h
    · cases h
  · cases h

theorem rangeEnd_spec {bl : Nat} {α : AAct} {l l3 : LH} {m3 : Nat} {e : AEnd} {α' : AAct} {l' : LH} {m : Nat} (h : rangeEnd bl α l3 m3 = some (e, α', l', m)) (hbl : bl = l.length) (k : Kept m3 (l ++ [.lp .ready none]) l3) :
    Kept m l l' ∧ ∀ qn qr qe, endQ qn qr qe e α' (toH l') → LowH bl (toH l) → RangeEnd qn qr qe α bl (toH l3) := by
  unfold rangeEnd at h
  split at h
  · rename_i st p hlp
    split at h
    · cases h
    · rename_i hst
      have hst' : st ≠ .busy := by rintro rfl; cases hst
      have hlen : bl < l3.length := by
        rcases Nat.lt_or_ge bl l3.length with h1 | h1
        · exact h1
        · rw [List.getElem?_eq_none h1] at hlp; cases hlp
      obtain ⟨c1, c2, c3⟩ := keepN_spec (m := m3) (Nat.le_of_lt hlen)
      have hk : Kept m3 l ((l3.set bl (.lp .exhausted p)).take (keepN bl m3 l3.length)) := ⟨by simp; omega, fun i hi hl => by
        rw [List.getElem?_take, if_pos (by omega), List.getElem?_set, if_neg (by omega), k.2 i hi (by simp; omega), List.getElem?_append_left hl]⟩
      have key : ∀ qn qr qe, jumpTo qn qr qe p α (toH ((l3.set bl (.lp .exhausted p)).take (keepN bl m3 l3.length))) → LowH bl (toH l) → RangeEnd qn qr qe α bl (toH l3) := by
        intro qn qr qe hq hL
        refine ⟨keepN bl m3 l3.length, ⟨c1, c2⟩, fun hlt => ?_, st, p, hlp, hst', ?_⟩
        · obtain ⟨e1, h2⟩ := c3 hlt
          rw [e1]
          intro b blk hb
          simp only [AHeap.trunc] at hb
          split at hb
          · rename_i hb1
            refine hL b blk ?_
            have := k.2 b (by omega) (by simp; omega)
            rw [List.getElem?_append_left (by omega)] at this
            simp only [toH] at hb ⊢
            rw [← this]; exact hb
          · cases hb
        · rw [lset_toH hlen, trunc_toH _ _ (by simpa using c2)]
          exact hq
      split at h
      · simp only [Option.some.injEq, Prod.mk.injEq] at h
        obtain ⟨rfl, rfl, rfl, rfl⟩ := h
        exact ⟨hk, key⟩
      · simp only [Option.some.injEq, Prod.mk.injEq] at h
        obtain ⟨rfl, rfl, rfl, rfl⟩ := h
        exact ⟨hk, key⟩
      · simp only [Option.some.injEq, Prod.mk.injEq] at h
        obtain ⟨rfl, rfl, rfl, rfl⟩ := h
        exact ⟨hk, key⟩
      · cases h
  · cases h

theorem runC_sound {X : Cx} {callE : Env → Callee} (hcE : ∀ (X1 : Cx) (env : Env), Sub X1 X → EnvOk X1 env → CallOk X1 (callE env)) {pcall : PCallee} (hp0 : PCallOk X pcall) (hm : X.P.follows .mixedOrders = true) {hint : Tmp → Hint} {N lf : Nat} {X1 : Cx} (s : Sub X1 X) {env : Env} (hE : EnvOk X1 env) :
    ∀ (c : Code) (α : AAct) (l : LH) (e : AEnd) (α' : AAct) (l' : LH) (m : Nat), runC X callE pcall env hint N lf c α l = some (e, α', l', m) → SOk X1 N c α l e α' l' m
  | .skip, α, l, e, α', l', m, h => by
    simp only [runC, Option.some.injEq, Prod.mk.injEq] at h
    obtain ⟨rfl, rfl, rfl, rfl⟩ := h
    exact ⟨Kept.refl_ _ _, fun qn qr qe hq ro w0 B μ0 μ w a hro hg he hs ha hl hH hM => Go.wpIn_skip ⟨_, _, μ, hq, he, hs, ha, hl, hH, hM⟩⟩
  | .seq a b, α, l, e, α', l', m, h => by
    simp only [runC] at h
    split at h
    · rename_i α1 l1 m1 h1
      obtain ⟨m2, h2, rfl⟩ := minR_spec h
      obtain ⟨k1, k2⟩ := runC_sound hcE hp0 hm s hE a _ _ _ _ _ _ h1
      obtain ⟨k3, k4⟩ := runC_sound hcE hp0 hm s hE b _ _ _ _ _ _ h2
      refine ⟨k1.trans k3, fun qn qr qe hq ro w0 B μ0 μ w a hro hg he hs ha hl hH hM => ?_⟩
      refine Go.wpIn_seq (Go.wpIn_mono (k2 (fun α H => AWp X1 N b qn qr qe α H) qr qe (k4 qn qr qe hq) ro w0 B μ0 μ w a hro hg he hs ha hl hH hM) ?_)
      intro e a' w' hq
      cases e with
      | normal =>
        obtain ⟨α', H', μ', h1, h2, h3, h4, h5, h6, h7⟩ := hq
        exact h1 ro w0 B μ0 μ' w' a' hro hg h2 h3 h4 h5 h6 h7
      | _ => exact hq
    · rename_i hne
      obtain ⟨k1, k2⟩ := runC_sound hcE hp0 hm s hE a _ _ _ _ _ _ h
      refine ⟨k1, fun qn qr qe hq ro w0 B μ0 μ w a hro hg he hs ha hl hH hM => ?_⟩
      refine Go.wpIn_seq (Go.wpIn_mono (k2 (fun _ _ => False) qr qe ?_ ro w0 B μ0 μ w a hro hg he hs ha hl hH hM) ?_)
      · cases e with
        | normal => exact absurd h (hne _ _ _)
        | ret => exact hq
        | exit i => exact hq
      · intro e a' w' hq
        cases e with
        | normal => obtain ⟨_, _, _, h1, _⟩ := hq; exact h1.elim
        | _ => exact hq
  | .cond c t e0, α, l, e, α', l', m, h => by
    simp only [runC] at h
    have key : ∀ b, aeval X α c = .bool b → ∀ d, SOk X1 N d α l e α' l' m → d = (if b = true then t else e0) → SOk X1 N (.cond c t e0) α l e α' l' m := by
      intro b hb d hd hde
      refine ⟨hd.1, fun qn qr qe hq ro w0 B μ0 μ w a hro hg he hs ha hl hH hM => ?_⟩
      have hcr := aeval_rep ha (s.grep (hg.mono he)) c
      rw [hb] at hcr
      have hcc : a.eval c = .bool b := by cases hx : a.eval c <;> rw [hx] at hcr <;> cases hcr; rfl
      refine Go.wpIn_cond_split hcc (fun q => ?_) (fun q => ?_)
      · subst q; subst hde; exact hd.2 qn qr qe hq ro w0 B μ0 μ w a hro hg he hs ha hl hH hM
      · subst q; subst hde; exact hd.2 qn qr qe hq ro w0 B μ0 μ w a hro hg he hs ha hl hH hM
    split at h
    · rename_i hb; exact key _ hb t (runC_sound hcE hp0 hm s hE t _ _ _ _ _ _ h) rfl
    · rename_i hb; exact key _ hb e0 (runC_sound hcE hp0 hm s hE e0 _ _ _ _ _ _ h) rfl
    · cases h
  | .block id c, α, l, e, α', l', m, h => by
    simp only [runC] at h
    have key : ∀ e1, SOk X1 N c α l e1 α' l' m → e = (match e1 with | .exit i => if i = id then .normal else .exit i | e1 => e1) → SOk X1 N (.block id c) α l e α' l' m := by
      intro e1 h1 hee
      refine ⟨h1.1, fun qn qr qe hq ro w0 B μ0 μ w a hro hg he hs ha hl hH hM => ?_⟩
      refine Go.wpIn_block (Go.wpIn_mono (h1.2 qn qr (fun i α H => if i = id then qn α H else qe i α H) ?_ ro w0 B μ0 μ w a hro hg he hs ha hl hH hM) ?_)
      · subst hee
        cases e1 with
        | normal => exact hq
        | ret => exact hq
        | exit i =>
          by_cases hi : i = id
          · simp only [hi, if_true, endQ] at hq ⊢; exact hq
          · simp only [hi, if_false, endQ] at hq ⊢; exact hq
      · intro e a' w' hq
        cases e with
        | exit i =>
          simp only [conc] at hq
          by_cases hi : i = id
          · simp only [Exit.inBlock, hi, if_true]
            simp only [hi, if_true] at hq
            exact hq
          · simp only [Exit.inBlock, hi, if_false]
            simp only [hi, if_false] at hq
            exact hq
        | _ => exact hq
    split at h
    · rename_i i α1 l1 m1 h1
      have := runC_sound hcE hp0 hm s hE c _ _ _ _ _ _ h1
      split at h
      · rename_i hi
        have hi := Nat.eq_of_beq_eq_true hi
        simp only [Option.some.injEq, Prod.mk.injEq] at h
        obtain ⟨rfl, rfl, rfl, rfl⟩ := h
        exact key _ this (by simp [hi])
      · rename_i hi
        have hi := Nat.ne_of_beq_eq_false hi
        simp only [Option.some.injEq, Prod.mk.injEq] at h
        obtain ⟨rfl, rfl, rfl, rfl⟩ := h
        exact key _ this (by simp [hi])
    · rename_i hne
      have := runC_sound hcE hp0 hm s hE c _ _ _ _ _ _ h
      refine key _ this ?_
      cases e with
      | exit i => exact absurd h (hne _ _ _ _)
      | _ => rfl
  | .exit id, α, l, e, α', l', m, h => by
    simp only [runC, Option.some.injEq, Prod.mk.injEq] at h
    obtain ⟨rfl, rfl, rfl, rfl⟩ := h
    exact ⟨Kept.refl_ _ _, fun qn qr qe hq ro w0 B μ0 μ w a hro hg he hs ha hl hH hM => Go.wpIn_exit ⟨_, _, μ, hq, he, hs, ha, hl, hH, hM⟩⟩
  | .ret, α, l, e, α', l', m, h => by
    simp only [runC, Option.some.injEq, Prod.mk.injEq] at h
    obtain ⟨rfl, rfl, rfl, rfl⟩ := h
    exact ⟨Kept.refl_ _ _, fun qn qr qe hq ro w0 B μ0 μ w a hro hg he hs ha hl hH hM => Go.wpIn_ret ⟨_, _, μ, hq, he, hs, ha, hl, hH, hM⟩⟩
  | .region id ops false, α, l, e, α', l', m, h => by
    simp only [runC] at h
    split at h
    · rename_i α1 l1 m1 h1
      simp only [Option.some.injEq, Prod.mk.injEq] at h
      obtain ⟨rfl, rfl, rfl, rfl⟩ := h
      refine ⟨runO_kept s (hcE X1 env s hE) _ _ _ _ _ (Kept.refl_ _ _) h1, fun qn qr qe hq ro w0 B μ0 μ w a hro hg he hs ha hl hH hM => ?_⟩
      exact Go.wpIn_region_list (runO_sound (Q := conc X1 w0 B N μ0 qn qr qe) s (hcE X1 env s hE) (fun a' w' hq => hq) hg hq ops.toList α l _ μ w a he hs ha hl hH hM h1)
    · cases h
  | .region id ops true, α, l, e, α', l', m, h => by
    simp only [runC, drawn] at h
    split at h
    · rename_i hst
      split at h
      · rename_i α1 l1 acc m1 h1
        split at h
        · rename_i hpr
          simp only [Option.some.injEq, Prod.mk.injEq] at h
          obtain ⟨rfl, rfl, rfl, rfl⟩ := h
          refine ⟨?_, fun qn qr qe hq => ?_⟩
          · exact (runD_sound s (fun f args l v rd h H' hs => (hp0 f args l v rd h H' hs).sub s) (K := fun _ _ _ => True) trivial l ops.toList 0 α l [] _ (Kept.refl_ _ _) h1).2
          · exact AWp_drawn (tab0_ok X1) (by rw [s.P]; exact hm) hst (clOf ops) rfl (fun _ => (runD_sound s (fun f args l v rd h H' hs => (hp0 f args l v rd h H' hs).sub s) (K := fun α' H' acc => pairsOk (clOf ops) acc ∧ qn α' H') ⟨pairsB_ok hpr, hq⟩ l ops.toList 0 α l [] _ (Kept.refl_ _ _) h1).1)
        · cases h
      · cases h
    · cases h
  | .loop c, α, l, e, α', l', m, h => by
    simp only [runC] at h
    obtain ⟨k1, k2⟩ := iterL_sound (fun α l e α' l' m h => runC_sound hcE hp0 hm s hE c α l e α' l' m h) lf α l e α' l' m h
    refine ⟨k1, fun qn qr qe hq => ?_⟩
    obtain ⟨j, hj⟩ := k2 qn qr qe (by cases e with | normal => trivial | ret => exact hq | exit i => exact hq)
    exact AWp_rounds j hj
  | .rangeFunc g ps assign body, α, l, e, α', l', m, h => by
    simp only [runC] at h
    split at h
    · rename_i gf first caps hgf
      split at h
      · rename_i hps
        split at h
        · rename_i u l3 m3 h3
          have hA : ∀ α l e α' l' m, runC X callE pcall env hint N lf assign α l = some (e, α', l', m) → SOk X1 N assign α l e α' l' m := fun α l e α' l' m h => runC_sound hcE hp0 hm s hE assign α l e α' l' m h
          have hB : ∀ α l e α' l' m, runC X callE pcall env hint N lf body α l = some (e, α', l', m) → SOk X1 N body α l e α' l' m := fun α l e α' l' m h => runC_sound hcE hp0 hm s hE body α l e α' l' m h
          have henv : ∀ X2, Sub X2 X1 → (∀ args H' Ψ, Round X1 N ps.toList assign body α l.length args H' Ψ → AYields X2 l.length args H' Ψ) →
              EnvOk X2 (addEnv env l.length (rnd (runC X callE pcall env hint N lf assign) (runC X callE pcall env hint N lf body) ps.toList α l.length)) := by
            intro X2 s2 hy b hd hb args l0 v l0' m0 hh
            unfold addEnv at hb
            split at hb
            · rename_i hbb
              have := Nat.eq_of_beq_eq_true hbb
              subst this
              cases hb
              obtain ⟨r1, r2⟩ := rnd_sound hA hB hh
              exact ⟨hy _ _ _ r1, r2⟩
            · exact (hE.sub s2) b hd hb args l0 v l0' m0 hh
          have hk3 : Kept m3 (l ++ [.lp .ready none]) l3 := by
            let X2 : Cx := { P := X1.P, G := X1.G, K := fun _ => False, kmono := fun _ _ _ h => h }
            have s2 : Sub X2 X1 := ⟨rfl, rfl, fun _ h => h.elim⟩
            exact ((hcE X2 _ (s2.trans s) (henv X2 s2 fun _ _ _ _ _ _ _ _ _ _ _ _ _ _ hg => hg.2.elim)).1 _ _ _ _ _ _ h3).2
          obtain ⟨k1, k2⟩ := rangeEnd_spec h rfl hk3
          refine ⟨k1, fun qn qr qe hq => ?_⟩
          refine AWp_range (by rw [aeval_sub s]; exact hgf) (allLt_ok hps) (fun H' => H' = toH l3) ?_ ?_
          · intro X2 s2 hy hF hL
            have hc2 := ((hcE X2 _ (s2.trans s) (henv X2 s2 hy)).1 _ _ _ _ _ _ h3).1
            have e1 : (toH l).push (.lp .ready none) = toH (l ++ [.lp .ready none]) := by
              rw [← AHeap.new_n]
              exact (appE_spec (l := l) (e := .new l.length (.lp .ready none)) (by simp [appE])).1
            rw [e1]
            exact hc2.mono fun _ _ q => q.2
          · rintro hF hL H' rfl
            exact k2 qn qr qe hq hL
        · cases h
      · cases h
    · cases h
  | .scope c, α, l, e, α', l', m, h => by simp only [runC] at h; cases h
  | .label c, α, l, e, α', l', m, h => by simp only [runC] at h; cases h
  | .goto c, α, l, e, α', l', m, h => by simp only [runC] at h; cases h
  | .refuse c, α, l, e, α', l', m, h => by simp only [runC] at h; cases h

/-! Calls. -/
def resOkB (X : Cx) (α : AAct) (l : LH) : ResultVar → Bool
  | .tmp _ => true
  | .cell a t =>
    match aget α a with
    | .ptr b off =>
      match l[b]? with
      | some (.box cs) => loadB X.P t (cs.drop off)
      | _ => false
    | _ => false
def allOkB (X : Cx) (α : AAct) (l : LH) : List ResultVar → Bool
  | [] => true
  | r :: rs => resOkB X α l r && allOkB X α l rs
theorem allOkB_ok {X : Cx} {α : AAct} {l : LH} : ∀ {rs : List ResultVar}, allOkB X α l rs = true → allOk X α (toH l) rs
  | [], _ => trivial
  | r :: rs, h => by
    simp only [allOkB, Bool.and_eq_true] at h
    refine ⟨?_, allOkB_ok h.2⟩
    have h1 := h.1
    cases r with
    | tmp t => trivial
    | cell a t =>
      simp only [resOkB] at h1
      simp only [aresOk]
      split at h1
      · rename_i b off hb
        simp only [hb]
        split at h1
        · rename_i cs hcs
          have : (toH l).get b = some (.box cs) := hcs
          simp only [this]
          exact loadB_ok h1
        · cases h1
      · cases h1

structure Mach where
  X : Cx
  Γ : Tab
  hints : FuncId → Tmp → Hint
  lf : Nat
def bodyF (M : Mach) (callE : Env → Callee) (pcall : PCallee) (env : Env) (f : FuncId) (fn : Func) (c : Code) (args : List V) (l : LH) : Option (V × LH × Nat) :=
  match runC M.X callE pcall env (M.hints f) fn.ntmps M.lf c (entryA 0 args) l with
  | some (.exit _, _, _, _) => none
  | some (_, α', l', m) => match allOkB M.X α' l' fn.results.toList with | true => some (resV (fn.results.toList.map (aresV M.X α' (toH l'))), l', m) | false => none
  | none => none
def pOf (callE : Env → Callee) : PCallee := fun f args l =>
  match lowLB 0 args with
  | true => match callE env0 (.fn f) args [] with
    | some (v, [], _) => match lowVB 0 v with | true => some (v, []) | false => none
    | _ => none
  | false =>
    match lowLB 0 (args.map (frz (toH l) 8)) with
    | true => match callE env0 (.fn f) (args.map (frz (toH l) 8)) [] with
      | some (v, [], _) => match plain 8 v with | true => some (v, (args.flatMap (frzK (toH l) 8)).map fun b => (b, 0)) | false => none
      | _ => none
    | false => none
/-- A call's end: with what was there alone, or with all. -/
def endF (v : V) (l l' : LH) (m : Nat) : Option (V × LH × Nat) :=
  match Nat.ble l.length m && lowVB l.length (lowerV l.length v) with
  | true => some (lowerV l.length v, l'.take l.length, m)
  | false => match lowVB l'.length v with
    | true => some (v, l', m)
    | false => none
def callF (M : Mach) : Nat → Env → Callee
  | 0 => fun _ _ _ _ => none
  | k + 1 => fun env t args l =>
    match t with
    | .yl b =>
      match env b with
      | some h => h args l
      | none => none
    | .fn f =>
      match M.Γ f args with
      | some v => some (v, l, 4294967296)
      | none =>
        match M.X.P.funcs[f]? with
        | none => none
        | some fn =>
          match fn.body with
          | none => none
          | some c =>
            match Nat.ble args.length fn.ntmps with
            | false => none
            | true =>
              match lowLB 0 args with
              | true =>
                match bodyF M (callF M k) (pOf (callF M k)) env0 f fn c args [] with
                | some (v, l', m) =>
                  match lowVB 0 (lowerV 0 v) with
                  | true => some (lowerV 0 v, l, 4294967296)
                  | false =>
                    match bodyF M (callF M k) (pOf (callF M k)) env f fn c args l with
                    | some (v, l', m) => endF v l l' m
                    | none => none
                | none => none
              | false =>
                match bodyF M (callF M k) (pOf (callF M k)) env f fn c args l with
                | some (v, l', m) => endF v l l' m
                | none => none

structure Mach.Ok (M : Mach) : Prop where
  tab : TabOk M.X M.Γ
  know : ∀ μ, M.X.K μ
  mixed : M.X.P.follows .mixedOrders = true
  names : ∀ (f : FuncId) (fn : Func), M.X.P.funcs[f]? = some fn → (fn.name == "runtime.NumGoroutine") = false

theorem toH_fresh (l : LH) : (toH l).Fresh := fun i hi => List.getElem?_eq_none hi
section
variable {M : Mach} (hM : M.Ok) {callE : Env → Callee} (hcE : ∀ (X1 : Cx) (env : Env), Sub X1 M.X → EnvOk X1 env → CallOk X1 (callE env)) {pcall : PCallee} (hp : PCallOk M.X pcall)
include hM hcE hp
theorem bodyF_sound {X1 : Cx} (s : Sub X1 M.X) {env : Env} (hE : EnvOk X1 env) {f : FuncId} {fn : Func} {c : Code} {args : List V} {l : LH} {v v' : V} {l' : LH} {m n' : Nat}
    (hf : M.X.P.funcs[f]? = some fn) (hb : fn.body = some c) (hn : args.length ≤ fn.ntmps) (h : bodyF M callE pcall env f fn c args l = some (v, l', m)) (hle : VLe v' v) (hv : Low n' v') (hn' : l.length ≤ n' ∧ n' ≤ l'.length)
    (hk : LowH l.length (toH l) → n' < l'.length → LowH n' ((toH l').trunc n')) :
    ACalls X1 f args (toH l) (fun v'' H' => v'' = v' ∧ H' = toH (l'.take n')) := by
  have gen : ∀ e α', (∀ i, e ≠ .exit i) → runC M.X callE pcall env (M.hints f) fn.ntmps M.lf c (entryA 0 args) l = some (e, α', l', m) → allOkB M.X α' l' fn.results.toList = true → resV (fn.results.toList.map (aresV M.X α' (toH l'))) = v →
      ACalls X1 f args (toH l) (fun v'' H' => v'' = v' ∧ H' = toH (l'.take n')) := by
    intro e α' hne h1 h2 h3
    obtain ⟨k1, k2⟩ := runC_sound hcE hp hM.mixed s hE c _ _ _ _ _ _ h1
    have hf1 : X1.P.funcs[f]? = some fn := by rw [s.P]; exact hf
    refine ACalls_of_awp (callable_of hf1 hb (hM.names f fn hf)) hf1 hb hn fun hfr hl hH => k2 _ _ _ ?_
    have hres : ∀ r, aresV X1 α' (toH l') r = aresV M.X α' (toH l') r := fun r => by cases r <;> simp only [aresV, s.P]
    have hok : ∀ rs, allOk M.X α' (toH l') rs → allOk X1 α' (toH l') rs := fun rs => by
      induction rs with
      | nil => exact fun h => h
      | cons r rs ih =>
        refine fun h => ⟨?_, ih h.2⟩
        have := h.1
        cases r with
        | tmp t => trivial
        | cell a t => simp only [aresOk, s.P] at this ⊢; exact this
    have fin : Fin X1 fn.results.toList (toH l).n (fun v'' H' => v'' = v' ∧ H' = toH (l'.take n')) α' (toH l') := by
      refine ⟨hok _ (allOkB_ok h2), v', n', ?_, hv, hk hH, hn', rfl, trunc_toH _ _ hn'.2⟩
      have : resV (fn.results.toList.map (aresV X1 α' (toH l'))) = v := by rw [← h3]; congr 1; exact List.map_congr_left fun r _ => hres r
      rw [this]
      exact hle
    cases e with
    | normal => exact fin
    | ret => exact fin
    | exit i => exact absurd rfl (hne i)
  unfold bodyF at h
  split at h
  · cases h
  · rename_i e α' l1 m1 hne h1
    split at h
    · rename_i h2
      simp only [Option.some.injEq, Prod.mk.injEq] at h
      obtain ⟨h3, rfl, rfl⟩ := h
      exact gen e α' (fun i q => hne i q) h1 h2 h3
    · cases h
  · cases h
theorem bodyF_kept {X1 : Cx} (s : Sub X1 M.X) {env : Env} (hE : EnvOk X1 env) {f : FuncId} {fn : Func} {c : Code} {args : List V} {l : LH} {v : V} {l' : LH} {m : Nat}
    (h : bodyF M callE pcall env f fn c args l = some (v, l', m)) : Kept m l l' := by
  unfold bodyF at h
  split at h
  · cases h
  · rename_i e α' l1 m1 hne h1
    split at h
    · simp only [Option.some.injEq, Prod.mk.injEq] at h
      obtain ⟨h3, rfl, rfl⟩ := h
      exact (runC_sound hcE hp hM.mixed s hE c _ _ _ _ _ _ h1).1
    · cases h
  · cases h
end
theorem pOf_sound {X : Cx} (hK : ∀ μ, X.K μ) {callE : Env → Callee} (hc : CallOk X (callE env0)) : PCallOk X (pOf callE) := by
  intro f args l v rd h
  unfold pOf at h
  split at h
  · rename_i hl
    split at h
    · rename_i u m1 h1
      split at h
      · rename_i hu
        cases h
        have := (hc.1 _ _ _ _ _ _ h1).1
        rw [toH_nil] at this
        exact (PureCall.of_nil hK (lowLB_ok hl) (lowVB_ok hu) (this.mono fun _ _ q => q.1)).rcall _
      · cases h
    · cases h
  · split at h
    · rename_i hl
      split at h
      · rename_i u m1 h1
        split at h
        · rename_i hu
          cases h
          have := (hc.1 _ _ _ _ _ _ h1).1
          rw [toH_nil] at this
          exact RCall.frozen hK 8 8 (lowLB_ok hl) hu (PureCall.of_nil hK (lowLB_ok hl) (plain_low 8 hu) (this.mono fun _ _ q => q.1))
        · cases h
      · cases h
    · cases h
theorem callF_sound {M : Mach} (hM : M.Ok) : ∀ (k : Nat) (X1 : Cx) (env : Env), Sub X1 M.X → EnvOk X1 env → CallOk X1 (callF M k env)
  | 0, X1, env, s, hE => ⟨fun f args l v l' m h => by simp [callF] at h, fun b args l v l' m h => by simp [callF] at h⟩
  | k + 1, X1, env, s, hE => by
    have ih := callF_sound hM k
    have ihp : PCallOk M.X (pOf (callF M k)) := pOf_sound hM.know (ih M.X env0 (Sub.refl_ _) (env0_ok _))
    have fin : ∀ {f fn c args l v l' m v2 l2 m2}, M.X.P.funcs[f]? = some fn → fn.body = some c → args.length ≤ fn.ntmps → bodyF M (callF M k) (pOf (callF M k)) env f fn c args l = some (v, l', m) → endF v l l' m = some (v2, l2, m2) →
        ACalls X1 f args (toH l) (fun v' H' => v' = v2 ∧ H' = toH l2) ∧ Kept m2 l l2 := by
      intro f fn c args l v l' m v2 l2 m2 hf hb hn h1 h2
      have hk : Kept m l l' := bodyF_kept hM ih ihp s hE h1
      unfold endF at h2
      split at h2
      · rename_i hu
        simp only [Bool.and_eq_true] at hu
        simp only [Option.some.injEq, Prod.mk.injEq] at h2
        obtain ⟨rfl, rfl, rfl⟩ := h2
        have hle := Nat.le_of_ble_eq_true hu.1
        refine ⟨bodyF_sound hM ih ihp s hE hf hb hn h1 (lower_le _ _) (lowVB_ok hu.2) ⟨Nat.le_refl _, hk.1⟩ (fun hH _ => ?_), ?_⟩
        · intro b blk hbk
          simp only [AHeap.trunc] at hbk
          split at hbk
          · rename_i hlt
            refine hH b blk ?_
            have := hk.2 b (by omega) hlt
            simp only [toH] at hbk ⊢
            rw [← this]; exact hbk
          · cases hbk
        · have := hk.1
          refine ⟨by simp; omega, fun i hi hl => ?_⟩
          rw [List.getElem?_take, if_pos hl]
          exact hk.2 i hi hl
      · split at h2
        · rename_i hu
          simp only [Option.some.injEq, Prod.mk.injEq] at h2
          obtain ⟨rfl, rfl, rfl⟩ := h2
          have := bodyF_sound hM ih ihp s hE hf hb hn h1 (VLe.rfl_ _) (lowVB_ok hu) ⟨hk.1, Nat.le_refl _⟩ (fun hH hlt => absurd hlt (Nat.lt_irrefl _))
          rw [List.take_length] at this
          exact ⟨this, hk⟩
        · cases h2
    refine ⟨fun f args l v l' m h => ?_, fun b args l v l' m h => ?_⟩
    · simp only [callF] at h
      split at h
      · rename_i u hu
        simp only [Option.some.injEq, Prod.mk.injEq] at h
        obtain ⟨rfl, rfl, rfl⟩ := h
        exact ⟨((hM.tab _ _ _ hu).sub s).use ⟨rfl, rfl⟩, Kept.refl_ _ _⟩
      · split at h
        · cases h
        · rename_i fn hf
          split at h
          · cases h
          · rename_i c hb
            split at h
            · cases h
            · rename_i hn
              have hn := Nat.le_of_ble_eq_true hn
              split at h
              · rename_i hl
                split at h
                · rename_i u l1 m1 h1
                  split at h
                  · rename_i hu
                    simp only [Option.some.injEq, Prod.mk.injEq] at h
                    obtain ⟨rfl, rfl, rfl⟩ := h
                    have k1 := bodyF_sound hM ih ihp (Sub.refl_ _) (env0_ok _) hf hb hn h1 (lower_le 0 _) (lowVB_ok hu) ⟨Nat.le_refl _, Nat.zero_le _⟩ (fun _ _ b blk hb => by simp [AHeap.trunc] at hb)
                    rw [toH_nil] at k1
                    exact ⟨((PureCall.of_nil hM.know (lowLB_ok hl) (lowVB_ok hu) (k1.mono fun _ _ q => q.1)).sub s).use ⟨rfl, rfl⟩, Kept.refl_ _ _⟩
                  · split at h
                    · rename_i u l1 m1 h1
                      exact fin hf hb hn h1 h
                    · cases h
                · cases h
              · split at h
                · rename_i u l1 m1 h1
                  exact fin hf hb hn h1 h
                · cases h
    · simp only [callF] at h
      split at h
      · rename_i hd hb
        exact hE b hd hb args l v l' m h
      · cases h
/-- What the interpreter works out is so. -/
def runP (M : Mach) (k : Nat) (f : FuncId) (args : List V) : Option V := match pOf (callF M k) f args [] with | some (v, []) => some v | _ => none
theorem pure_of_run {M : Mach} (hM : M.Ok) (k : Nat) {f : FuncId} {args : List V} {v : V} (hl : lowLB 0 args = true) (h : runP M k f args = some v) : PureCall M.X f args v := by
  unfold runP pOf at h
  rw [hl] at h
  simp only at h
  split at h
  · rename_i u h1
    split at h1
    · rename_i u2 m1 h2
      split at h1
      · rename_i hu
        simp only [Option.some.injEq, Prod.mk.injEq, and_true] at h1 h
        subst h1; subst h
        have := ((callF_sound hM k M.X env0 (Sub.refl_ _) (env0_ok _)).1 _ _ _ _ _ _ h2).1
        rw [toH_nil] at this
        exact PureCall.of_nil hM.know (lowLB_ok hl) (lowVB_ok hu) (this.mono fun _ _ q => q.1)
      · cases h1
    · cases h1
  · cases h
end Go.Alt

/- The abstract layer, part 27: a walk that the kernel works out: what is left are the conditions on the data. No condition. -/
namespace Go.Alt
open Go Go.RowKit

def allP : List Prop → Prop → Prop
  | [], q => q
  | p :: r, q => p ∧ allP r q
theorem allP_iff : ∀ {ps : List Prop} {q : Prop}, allP ps q ↔ (∀ p ∈ ps, p) ∧ q
  | [], q => by simp [allP]
  | p :: r, q => by simp only [allP, allP_iff (ps := r), List.forall_mem_cons, and_assoc]

/-! A frozen value, with slices as they are. -/
def sharedO : Own → Own
  | _ => .shared
def frz1 (H : AHeap) : Nat → V → V
  | 0, _ => .any
  | d + 1, v =>
    match v with
    | .ptr b off => match H.get b with | some (.box cs) => .pin ((cs.drop off).map (frz1 H d)) | _ => .any
    | .msl b off len size => match H.get b with | some (.box cs) => (match Nat.ble (off + len * size) cs.length with | true => .slc .shared ((chunks size len (cs.drop off)).map (·.map (frz1 H d))) | false => .any) | _ => .any
    | .slc _ es => .slc .shared es
    | .agg cs => .agg (cs.map (frz1 H d))
    | .tup vs => .tup (vs.map (frz1 H d))
    | .pin cs => .pin (cs.map (frz1 H d))
    | .fn f a c => .fn f (a.map (frz1 H d)) (c.map (frz1 H d))
    | .opt g v => .opt g (frz1 H d v)
    | .mp _ => .any
    | .yld _ => .any
    | v => v
def frzK1 (H : AHeap) : Nat → V → List Nat
  | 0, _ => []
  | d + 1, v =>
    match v with
    | .ptr b off => b :: match H.get b with | some (.box cs) => (cs.drop off).flatMap (frzK1 H d) | _ => []
    | .msl b off len size => b :: match H.get b with | some (.box cs) => (match Nat.ble (off + len * size) cs.length with | true => (chunks size len (cs.drop off)).flatMap (·.flatMap (frzK1 H d)) | false => []) | _ => []
    | .agg cs => cs.flatMap (frzK1 H d)
    | .tup vs => vs.flatMap (frzK1 H d)
    | .pin cs => cs.flatMap (frzK1 H d)
    | .fn _ a c => a.flatMap (frzK1 H d) ++ c.flatMap (frzK1 H d)
    | .opt _ v => frzK1 H d v
    | _ => []
theorem ext_frz {w0 : Base} {w : World} {B : Nat} {μ : Mem} {H : AHeap} (hs : Sim w0 B μ H w) : Ext μ.bare (frzMem w) := by
  refine ⟨fun c o x hx => ?_, ?_, ?_, ?_, ?_, ?_⟩
  · obtain ⟨k1, k2⟩ := hs.imm c o x hx; exact frzMem_imm k1 k2
  · intro b c hb; simp [Mem.bare, Mem.low] at hb
  · intro b c hb; simp [Mem.bare, Mem.low] at hb
  · intro b c hb; simp [Mem.bare, Mem.low] at hb
  · intro c hc; simp [Mem.bare] at hc
  · intro b c hb; simp [Mem.bare, Mem.low] at hb
theorem frz1_rep {w0 : Base} {w : World} {B : Nat} {μ : Mem} {H : AHeap} (hs : Sim w0 B μ H w) : ∀ (d : Nat) (v : V) (x : Value), Low 0 (frz1 H d v) → VRep μ v x → VRep (frzMem w) (frz1 H d v) x
  | 0, v, x, _, _ => .any x
  | d + 1, v, x, hl, h => by
    have ih := frz1_rep hs d
    have mapl : ∀ {cs : List V} {i : Nat}, (∀ u ∈ cs.map (frz1 H d), Low 0 u) → i < cs.length → Low 0 (frz1 H d (cs.getD i .any)) := fun {cs i} hL hi => hL _ (List.mem_map.2 ⟨_, getD_mem hi, rfl⟩)
    cases h with
    | any x => exact .any x
    | bool b => exact .bool b
    | int k n => exact .int k n
    | str s => exact .str s
    | nilFn => exact .nilFn
    | nilPtr => exact .nilPtr
    | nilIf => exact .nilIf
    | con => exact .con _
    | fn f fs cs fs' cs' hf hc h1 h2 =>
      simp only [frz1] at hl
      cases hl with
      | fn _ _ _ l1 l2 =>
        refine .fn f _ _ fs' cs' (by simpa using hf) (by simpa using hc) (fun i hi => ?_) (fun i hi => ?_)
        · rw [getD_map _ _ _ .any _ (by simpa using hi)]; exact ih _ _ (mapl l1 (by simpa using hi)) (h1 i (by simpa using hi))
        · rw [getD_map _ _ _ .any _ (by simpa using hi)]; exact ih _ _ (mapl l2 (by simpa using hi)) (h2 i (by simpa using hi))
    | agg cs cs' hl' h1 h2 =>
      simp only [frz1] at hl
      cases hl with
      | agg _ l1 =>
        refine .agg _ cs' (by simpa using hl') (fun i hi => ?_) h2
        rw [getD_map _ _ _ .any _ (by simpa using hi)]; exact ih _ _ (mapl l1 (by simpa using hi)) (h1 i (by simpa using hi))
    | tup cs cs' hl' h1 =>
      simp only [frz1] at hl
      cases hl with
      | tup _ l1 =>
        refine .tup _ cs' (by simpa using hl') (fun i hi => ?_)
        rw [getD_map _ _ _ .any _ (by simpa using hi)]; exact ih _ _ (mapl l1 (by simpa using hi)) (h1 i (by simpa using hi))
    | opt g v x h1 h0 =>
      simp only [frz1] at hl
      cases hl with
      | opt _ _ l1 => exact .opt g _ x (fun q => ih _ _ (l1 q) (h1 q)) h0
    | mp b c h => exact .any _
    | yld b c L h => exact .any _
    | slcNil o => exact .slcNil _
    | pin cs c off xs hc hr =>
      simp only [frz1] at hl
      cases hl with
      | pin _ l1 =>
        refine .pin _ c off xs (fun j hj => ?_) (fun j hj => ?_)
        · obtain ⟨k1, k2⟩ := hs.imm _ _ _ (hc j (by simpa using hj)); exact frzMem_imm k1 k2
        · rw [getD_map _ _ _ .any _ (by simpa using hj)]; exact ih _ _ (mapl l1 (by simpa using hj)) (hr j (by simpa using hj))
    | slc o es c off len cap sz xs hlen hcap hsz hc hr ho =>
      have h0 : VRep μ (.slc .shared es) (.slice (some ⟨c, off, none⟩) len cap) := .slc .shared es c off len cap sz xs hlen hcap hsz hc hr trivial
      exact (h0.bare hl).mono (ext_frz hs)
    | ptr b off c hb =>
      obtain ⟨cs, vs, e, h1, h2, h3, h4, h5, h6⟩ := hs.box b c hb
      simp only [frz1, h1] at hl ⊢
      cases hl with
      | pin _ l1 =>
        refine .pin _ c off (fun j => vs.getD (off + j) undef) (fun j hj => ?_) (fun j hj => ?_)
        · have hj' : off + j < cs.length := by simp at hj; omega
          have hlt : off + j < vs.length := Nat.lt_of_lt_of_le hj' h3.1
          have hv : vs.getD (off + j) undef = vs[off + j] := by simp [List.getD, hlt]
          refine frzMem_imm ?_ (h6 _ ?_)
          · simp only [World.cell?, h2]
            simp [hv, hlt]
          · rw [hv]; exact List.getElem_mem hlt
        · have hj' : off + j < cs.length := by simp at hj; omega
          have hj2 : j < (cs.drop off).length := by simp; omega
          have hlow := mapl l1 hj2
          rw [getD_map _ _ _ .any _ hj2]
          have e2 : (cs.drop off).getD j .any = cs.getD (off + j) .any := by simp only [List.getD, List.getElem?_drop]
          rw [e2] at hlow ⊢
          exact ih _ _ hlow (h3.2 (off + j) hj')
    | msl b off len size c cap hb hcap =>
      obtain ⟨cs, vs, e, h1, h2, h3, h4, h5, h6⟩ := hs.box b c hb
      simp only [frz1, h1] at hl ⊢
      split
      · rename_i hfit
        rw [hfit] at hl
        simp only at hl
        have hfit := Nat.le_of_ble_eq_true hfit
        cases hl with
        | slc _ _ _ l1 =>
          have hidx : ∀ i j, i < len → j < size → off + i * size + j < cs.length := fun i j hi hj => by
            have : i * size + size ≤ len * size := by rw [← Nat.succ_mul]; exact Nat.mul_le_mul_right _ hi
            omega
          have hcl : ∀ i, i < len → ((chunks size len (cs.drop off)).getD i []).length = size := fun i hi => by
            rw [chunks_getD _ _ _ _ hi]
            have : i * size + size ≤ len * size := by rw [← Nat.succ_mul]; exact Nat.mul_le_mul_right _ hi
            simp; omega
          have hi' : ∀ i, i < len → ((chunks size len (cs.drop off)).map (·.map (frz1 H d))).getD i [] = ((chunks size len (cs.drop off)).getD i []).map (frz1 H d) := fun i hi => getD_map _ _ _ [] _ (by rw [chunks_len]; exact hi)
          refine .slc _ _ c off len cap size (fun i j => vs.getD (off + i * size + j) undef) (by simp [chunks_len]) hcap (fun i hi => ?_) (fun i j hi hj => ?_) (fun i j hi hj => ?_) trivial
          · rw [hi' i hi, List.length_map]; exact hcl i hi
          · have hlt : off + i * size + j < vs.length := Nat.lt_of_lt_of_le (hidx i j hi hj) h3.1
            have hv : vs.getD (off + i * size + j) undef = vs[off + i * size + j] := by simp [List.getD, hlt]
            refine frzMem_imm ?_ (h6 _ ?_)
            · simp only [World.cell?, h2]
              simp [hv, hlt]
            · rw [hv]; exact List.getElem_mem hlt
          · have hlow := mapl (cs := (chunks size len (cs.drop off)).getD i []) (i := j) (l1 _ (List.mem_map.2 ⟨_, getD_mem2 (by rw [chunks_len]; exact hi), rfl⟩)) (by rw [hcl i hi]; exact hj)
            rw [hi' i hi, getD_map _ _ _ .any _ (by rw [hcl i hi]; exact hj)]
            have e2 : ((chunks size len (cs.drop off)).getD i []).getD j .any = cs.getD (off + i * size + j) .any := by
              rw [chunks_getD _ _ _ _ hi]
              simp only [List.getD, List.getElem?_take, hj, if_true, List.drop_drop, List.getElem?_drop]
            rw [e2] at hlow ⊢
            exact ih _ _ hlow (h3.2 _ (hidx i j hi hj))
      · exact .any _
theorem frz1_same {H H' : AHeap} : ∀ (d : Nat) (v : V), (∀ b ∈ frzK1 H d v, H'.get b = H.get b) → frz1 H' d v = frz1 H d v
  | 0, v, _ => rfl
  | d + 1, v, h => by
    have lst : ∀ l : List V, (∀ b ∈ l.flatMap (frzK1 H d), H'.get b = H.get b) → l.map (frz1 H' d) = l.map (frz1 H d) := fun l hl =>
      List.map_congr_left fun u hu => frz1_same d u fun b hb => hl b (List.mem_flatMap.2 ⟨u, hu, hb⟩)
    have lst2 : ∀ l : List (List V), (∀ b ∈ l.flatMap (·.flatMap (frzK1 H d)), H'.get b = H.get b) → l.map (·.map (frz1 H' d)) = l.map (·.map (frz1 H d)) := fun l hl =>
      List.map_congr_left fun u hu => lst u fun b hb => hl b (List.mem_flatMap.2 ⟨u, hu, hb⟩)
    cases v <;> simp only [frz1, frzK1] at h ⊢
    case ptr b off =>
      rw [h b (by simp)]
      cases hb : H.get b with
      | none => rfl
      | some blk =>
        cases blk with
        | box cs => simp only; rw [lst _ fun b' hb' => h b' (by simp only [hb]; exact List.mem_cons_of_mem _ hb')]
        | _ => rfl
    case msl b off len size =>
      rw [h b (by simp)]
      cases hb : H.get b with
      | none => rfl
      | some blk =>
        cases blk with
        | box cs =>
          simp only
          cases hfit : Nat.ble (off + len * size) cs.length with
          | true =>
            simp only
            rw [lst2 _ fun b' hb' => h b' (by simp only [hb, hfit]; exact List.mem_cons_of_mem _ hb')]
          | false => rfl
        | _ => rfl
    case agg cs => rw [lst cs h]
    case tup cs => rw [lst cs h]
    case pin cs => rw [lst cs h]
    case fn f a c => rw [lst a fun b hb => h b (List.mem_append_left _ hb), lst c fun b hb => h b (List.mem_append_right _ hb)]
    case opt g v => rw [frz1_same d v h]
theorem ACalls.frozen1 {X : Cx} (hK : ∀ μ, X.K μ) {f : FuncId} {args : List V} {r : V} {H : AHeap} (d d2 : Nat) (ha : LowL 0 (args.map (frz1 H d))) (hr : plain d2 r = true) (h : PureCall X f (args.map (frz1 H d)) r) :
    ACalls X f args H (fun v H' => v = r ∧ H' = H) :=
  ACalls.frozenG hK d2 ha hr (fun hs hv => ⟨by simpa using hv.1, fun i hi => by
    have hi' : i < args.length := by simpa using hi
    rw [getD_map _ _ _ .any _ hi']
    exact frz1_rep hs d _ _ (ha _ (List.mem_map.2 ⟨_, getD_mem hi', rfl⟩)) (hv.2 i hi')⟩) h
theorem RCall.frozen1 {X : Cx} (hK : ∀ μ, X.K μ) {f : FuncId} {args : List V} {r : V} {H : AHeap} (d d2 : Nat) (ha : LowL 0 (args.map (frz1 H d))) (hr : plain d2 r = true) (h : PureCall X f (args.map (frz1 H d)) r) :
    RCall X f args H ((args.flatMap (frzK1 H d)).map fun b => (b, 0)) r [] := by
  intro H' hs
  have e : args.map (frz1 H' d) = args.map (frz1 H d) := List.map_congr_left fun u hu => frz1_same d u fun b hb => hs (b, 0) (List.mem_map.2 ⟨b, List.mem_flatMap.2 ⟨u, hu, hb⟩, rfl⟩)
  exact ACalls.frozen1 hK d d2 (by rw [e]; exact ha) hr (by rw [e]; exact h)
end Go.Alt

/- The abstract layer, part 28: the side conditions of operations: what is fixed is worked out, what hangs on the data is listed. No condition. -/
namespace Go.Alt
open Go Go.RowKit

def boolS (b : Bool) (ps : List Prop) : Option (List Prop) := match b with | true => some ps | false => none
theorem boolS_some {b : Bool} {ps qs : List Prop} (h : boolS b ps = some qs) : b = true ∧ ps = qs := by
  cases b with
  | true => simp only [boolS, Option.some.injEq] at h; exact ⟨rfl, h⟩
  | false => cases h
def gdT (t w : Bool) (v : V) (r : List Prop) : List Prop := match v with | .opt g _ => (t = w → g = true) :: r | _ => r
def binIS (op : BinOp) (b : Int) : Option (List Prop) :=
  match op with
  | .add | .sub | .mul | .eql | .neq | .lss | .leq | .gtr | .geq => some []
  | .quo | .rem => some [b ≠ 0]
  | _ => none
def binSS (op : BinOp) (a b : ByteArray) : Option (List Prop) :=
  match op with
  | .add => some [a.size + b.size ≤ 9223372036854775807]
  | .eql | .neq => some []
  | _ => none
def binRS (P : Program) (op : BinOp) (t : TypeId) (x y : Operand) (a b : V) : Option (List Prop) :=
  match a, b with
  | .int k _, .int k' n => match decide (k = k') with | true => binIS op n | false => none
  | .str m, .str n => binSS op m n
  | a, b => match op with
    | .eql => boolS (eqRB P t x y a b) []
    | .neq => boolS (eqRB P t x y a b) []
    | _ => none
def sliceS (P : Program) (t : TypeId) (x : V) (lo hi mx : Option V) : Option (List Prop) :=
  match x with
  | .str s =>
    match mx with
    | some _ => none
    | none => boolS (isStrT P t) [(bnd hi s.size s.size).1, (bnd lo 0 (bnd hi s.size s.size).2).1]
  | .slc _ es =>
    match elemOf P t with
    | none => none
    | some e =>
      match mx with
      | none => boolS (hasType P e) [(bnd hi es.length es.length).1, (bnd lo 0 (bnd hi es.length es.length).2).1, ∀ c ∈ es, c.length = szOf P e]
      | some _ => some [(sliceR P t x lo hi mx).ok]
  | _ => some [(sliceR P t x lo hi mx).ok]
def appendS (P : Program) (e : TypeId) (es ys : List (List V)) (qs : List Prop) : Option (List Prop) :=
  boolS (hasType P e && hasZero P e && Nat.beq (zeroCells P e).length (szOf P e))
    ((∀ c ∈ es, c.length = szOf P e) :: (∀ c ∈ ys, c.length = szOf P e) :: (es.length + ys.length ≤ 9223372036854775807) :: ((es.length + ys.length) * byOf P e ≤ 140737488355328) :: qs)
def appendRS (P : Program) (hint : Hint) (t : TypeId) (H : AHeap) (s x : V) : Option (List Prop) :=
  match elemOf P t, elemsV H x with
  | some e, some (ys, _) =>
    match s with
    | .slc .full es =>
      match hint with
      | .imm => appendS P e es ys []
      | .tip => appendS P e es ys []
      | .box => appendS P e es ys [0 < ys.length]
    | .slc (.tip b) es =>
      match H.get b with
      | some (.tip m) => appendS P e es ys [m = es.length]
      | _ => none
    | _ => none
  | _, _ => none
def builtinS (P : Program) (hint : Hint) (H : AHeap) (b : Builtin) (ts : List TypeId) (args : List V) : Option (List Prop) :=
  match b, ts, args with
  | .append, [t, t'], [s, x] => match decide (t = t') with | true => appendRS P hint t H s x | false => none
  | b, ts, args => boolS (builtinB P hint H b ts args) []
def okS (X : Cx) (hint : Hint) (ρ : Operand → V) (H : AHeap) (op : Op) : Option (List Prop) :=
  match op with
  | .pick c a b =>
    match ρ c with
    | .bool t => some (gdT t true (ρ a) (gdT t false (ρ b) []))
    | _ => none
  | .indexAddr t x ix =>
    match ρ x, ρ ix with
    | .slc _ es, .int _ i =>
      match elemOf X.P t with
      | some e => boolS (hasType X.P e) [0 ≤ i, i < (es.length : Int), (es.getD i.toNat []).length = szOf X.P e]
      | none => none
    | .msl _ _ len size, .int _ i =>
      match elemOf X.P t with
      | some e => boolS (hasType X.P e && Nat.beq size (szOf X.P e)) [0 ≤ i, i < (len : Int)]
      | none => none
    | .ptr _ _, .int _ i =>
      match arrOf X.P t with
      | some (n, e) => boolS (hasType X.P e) [0 ≤ i, i < (n : Int)]
      | none => none
    | .pin _, .int _ i =>
      match arrOf X.P t with
      | some (n, e) => boolS (hasType X.P e) [0 ≤ i, i < (n : Int)]
      | none => none
    | _, _ => none
  | .index t x ix =>
    match ρ x, ρ ix with
    | .str s, .int _ i => boolS (isStrT X.P t) [0 ≤ i, i < (s.size : Int)]
    | .agg cs, .int _ i =>
      match arrOf X.P t with
      | some (n, e) => boolS (hasType X.P e) [0 ≤ i, i < (n : Int), loadOk X.P e (cs.drop (i.toNat * szOf X.P e))]
      | none => none
    | _, _ => none
  | .binOp op t x y _ => binRS X.P op t x y (ρ x) (ρ y)
  | .convert src dst x =>
    match X.P.underlying dst, ρ x with
    | some (.int _), .int _ _ => boolS (X.P.underlying src).isSome []
    | some .string, .str _ => boolS (X.P.underlying src).isSome []
    | _, _ => some [(convR X.P H src dst (ρ x)).ok]
  | .lookup t m k c => some [(lookupR X.P H t (ρ m) (ρ k) c).ok]
  | .mapUpdate t m k v => some [(mupR X.P H t (ρ m) (ρ k) (ρ v)).ok]
  | .insert t m k v => some [(mupR X.P H t (ρ m) (ρ k) (ρ v)).ok]
  | .makeSlice t l c =>
    match elemOf X.P t, ρ l, ρ c with
    | some e, .int _ n, .int _ m => boolS (hasType X.P e && hasZero X.P e && Nat.beq (zeroCells X.P e).length (szOf X.P e)) [0 ≤ n, n = m, (byOf X.P e : Int) * m ≤ 281474976710656, m ≤ 9223372036854775807]
    | _, _, _ => none
  | .slice t x lo hi mx => sliceS X.P t (ρ x) (lo.map ρ) (hi.map ρ) (mx.map ρ)
  | .call c =>
    match c.callee with
    | .builtin b => builtinS X.P hint H b c.argTypes.toList (c.args.toList.map ρ)
    | _ => none
  | op => boolS (okB X hint ρ H op) []

theorem gdT_ok {t w : Bool} {v : V} {r : List Prop} (h : ∀ p ∈ gdT t w v r, p) : (t = w → v.gd = true) ∧ ∀ p ∈ r, p := by
  unfold gdT at h
  split at h
  · exact ⟨h _ (by simp), fun p hp => h p (List.mem_cons_of_mem _ hp)⟩
  · rename_i hv
    refine ⟨fun _ => ?_, h⟩
    cases v <;> first | rfl | exact absurd rfl (hv _ _)
theorem binIS_ok {op : BinOp} {k : IntKind} {a b : Int} {ps : List Prop} (h : binIS op b = some ps) (hp : ∀ p ∈ ps, p) : (binI op k a b).ok := by
  cases op <;> simp only [binIS] at h <;> simp only [binI, yields, must] <;> first | (cases h; done) | (cases h; exact hp (b ≠ 0) (by simp)) | (cases h; trivial)
theorem binSS_ok {op : BinOp} {a b : ByteArray} {ps : List Prop} (h : binSS op a b = some ps) (hp : ∀ p ∈ ps, p) : (binS op a b).ok := by
  cases op <;> simp only [binSS] at h <;> simp only [binS, yields, must] <;> first | (cases h; done) | (cases h; exact hp _ (by simp)) | (cases h; trivial)
theorem binRS_ok {P : Program} {op : BinOp} {t : TypeId} {x y : Operand} {a b : V} {ps : List Prop} (h : binRS P op t x y a b = some ps) (hp : ∀ p ∈ ps, p) : (binR P op t x y a b).ok := by
  unfold binR
  unfold binRS at h
  split at h
  · split at h
    · rename_i hk
      simp only [decide_eq_true_eq] at hk
      simp only [hk, if_true]
      exact binIS_ok h hp
    · cases h
  · exact binSS_ok h hp
  · rename_i h1 h2
    split
    · exact absurd rfl (h1 _ _ _ _ rfl)
    · exact absurd rfl (h2 _ _ rfl)
    · split at h
      · exact eqRB_ok (boolS_some h).1
      · exact eqRB_ok (boolS_some h).1
      · cases h
theorem sliceS_ok {P : Program} {t : TypeId} {x : V} {lo hi mx : Option V} {ps : List Prop} (h : sliceS P t x lo hi mx = some ps) (hp : ∀ p ∈ ps, p) : (sliceR P t x lo hi mx).ok := by
  unfold sliceS at h
  split at h
  · split at h
    · cases h
    · obtain ⟨h1, rfl⟩ := boolS_some h
      exact ⟨h1, hp _ (by simp), hp _ (by simp)⟩
  · split at h
    · cases h
    · rename_i he
      split at h
      · obtain ⟨h1, rfl⟩ := boolS_some h
        unfold sliceR
        simp only [he]
        exact ⟨hp _ (by simp), hp _ (by simp), h1, hp _ (by simp)⟩
      · cases h; exact hp _ (by simp)
  · cases h; exact hp _ (by simp)
theorem appendS_ok {P : Program} {e : TypeId} {es ys : List (List V)} {qs ps : List Prop} (h : appendS P e es ys qs = some ps) (hp : ∀ p ∈ ps, p) : appendOk P e es ys ∧ ∀ q ∈ qs, q := by
  obtain ⟨h1, rfl⟩ := boolS_some h
  simp only [Bool.and_eq_true] at h1
  refine ⟨⟨h1.1.1, h1.1.2, Nat.eq_of_beq_eq_true h1.2, hp _ (by simp), hp _ (by simp), hp _ (by simp), hp _ (by simp)⟩, fun q hq => hp q (by simp [hq])⟩
theorem appendRS_ok {P : Program} {hint : Hint} {nid : Nat} {t : TypeId} {H : AHeap} {s x : V} {ps : List Prop} (h : appendRS P hint t H s x = some ps) (hp : ∀ p ∈ ps, p) : (appendR P hint nid t H s x).ok := by
  unfold appendR
  unfold appendRS at h
  split at h
  · rename_i e ys rd he hx
    simp only [he, hx]
    split at h
    · split at h
      · exact (appendS_ok h hp).1
      · exact (appendS_ok h hp).1
      · exact ⟨(appendS_ok h hp).1, (appendS_ok h hp).2 _ (by simp)⟩
    · rename_i b es
      split at h
      · rename_i m hm
        simp only [hm]
        exact ⟨(appendS_ok h hp).1, (appendS_ok h hp).2 _ (by simp)⟩
      · cases h
    · cases h
  · cases h
theorem builtinS_ok {P : Program} {hint : Hint} {nid : Nat} {H : AHeap} {b : Builtin} {ts : List TypeId} {args : List V} {ps : List Prop} (h : builtinS P hint H b ts args = some ps) (hp : ∀ p ∈ ps, p) : (builtinR P hint nid H b ts args).ok := by
  unfold builtinS at h
  split at h
  · split at h
    · rename_i ht
      simp only [decide_eq_true_eq] at ht
      simp only [builtinR, ht, if_true]
      exact appendRS_ok (ht ▸ h) hp
    · cases h
  · exact builtinB_ok (boolS_some h).1
theorem okS_ok {X : Cx} {hint : Hint} {nid : Nat} {ρ : Operand → V} {H : AHeap} {op : Op} {ps : List Prop} (h : okS X hint ρ H op = some ps) (hp : ∀ p ∈ ps, p) : (arec X hint nid ρ H op).ok := by
  unfold okS at h
  split at h
  · rename_i c a b
    split at h
    · rename_i t ht
      cases h
      obtain ⟨h1, h2⟩ := gdT_ok hp
      obtain ⟨h3, _⟩ := gdT_ok h2
      simp only [arec, ht]
      exact ⟨h1, h3⟩
    · cases h
  · rename_i t x ix
    simp only [arec]
    split at h
    · rename_i q1 q2
      simp only [q1, q2]
      split at h
      · rename_i q3
        obtain ⟨h1, rfl⟩ := boolS_some h
        rw [q3]
        exact ⟨h1, hp _ (by simp), hp _ (by simp), hp _ (by simp)⟩
      · cases h
    · rename_i q1 q2
      simp only [q1, q2]
      split at h
      · rename_i q3
        obtain ⟨h1, rfl⟩ := boolS_some h
        simp only [Bool.and_eq_true] at h1
        rw [q3]
        exact ⟨h1.1, hp _ (by simp), hp _ (by simp), Nat.eq_of_beq_eq_true h1.2⟩
      · cases h
    · rename_i q1 q2
      simp only [q1, q2]
      split at h
      · rename_i q3
        obtain ⟨h1, rfl⟩ := boolS_some h
        rw [q3]
        exact ⟨h1, hp _ (by simp), hp _ (by simp)⟩
      · cases h
    · rename_i q1 q2
      simp only [q1, q2]
      split at h
      · rename_i q3
        obtain ⟨h1, rfl⟩ := boolS_some h
        rw [q3]
        exact ⟨h1, hp _ (by simp), hp _ (by simp)⟩
      · cases h
    · cases h
  · rename_i t x ix
    simp only [arec]
    split at h
    · rename_i q1 q2
      simp only [q1, q2]
      obtain ⟨h1, rfl⟩ := boolS_some h
      exact ⟨h1, hp _ (by simp), hp _ (by simp)⟩
    · rename_i q1 q2
      simp only [q1, q2]
      split at h
      · rename_i q3
        obtain ⟨h1, rfl⟩ := boolS_some h
        rw [q3]
        exact ⟨h1, hp _ (by simp), hp _ (by simp), hp _ (by simp)⟩
      · cases h
    · cases h
  · exact binRS_ok h hp
  · rename_i src dst x
    simp only [arec]
    split at h
    · rename_i q1 q2
      obtain ⟨h1, rfl⟩ := boolS_some h
      unfold convR
      rw [q1, q2]
      cases hs : X.P.underlying src with
      | none => rw [hs] at h1; cases h1
      | some d => trivial
    · rename_i q1 q2
      obtain ⟨h1, rfl⟩ := boolS_some h
      unfold convR
      rw [q1, q2]
      cases hs : X.P.underlying src with
      | none => rw [hs] at h1; cases h1
      | some d => cases d <;> trivial
    · cases h; exact hp _ (by simp)
  · cases h; exact hp _ (by simp)
  · cases h; exact hp _ (by simp)
  · cases h; exact hp _ (by simp)
  · rename_i t l c
    simp only [arec]
    split at h
    · rename_i q1 q2 q3
      simp only [q1, q2, q3]
      obtain ⟨h1, rfl⟩ := boolS_some h
      simp only [Bool.and_eq_true] at h1
      exact ⟨h1.1.1, h1.1.2, Nat.eq_of_beq_eq_true h1.2, hp _ (by simp), hp _ (by simp), hp _ (by simp), hp _ (by simp)⟩
    · cases h
  · exact sliceS_ok h hp
  · rename_i c
    obtain ⟨callee, args, ts⟩ := c
    cases callee with
    | builtin b => exact builtinS_ok h hp
    | _ => cases h
  · exact okB_ok (boolS_some h).1
end Go.Alt
