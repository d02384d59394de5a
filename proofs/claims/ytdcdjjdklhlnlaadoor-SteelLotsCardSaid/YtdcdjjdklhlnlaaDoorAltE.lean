/- The abstract layer over the model's runs, group E: lemmas for the walks. No condition. -/
import Derived.Test.YtdcdjjdklhlnlaaDoorAltD
import Derived.ProofKit
import Derived.OpenShut

/- The abstract layer, part 29: regions in a walk that the kernel works out. No condition. -/
namespace Go.Alt
open Go Go.RowKit

/-! Drawn regions, entry by entry. -/
def Tr (X : Cx) (N : Nat) (ops : Array Oper) (k : Nat) (α : AAct) (H : AHeap) (acc : List Foot) (K : AAct → AHeap → List Foot → Prop) : Prop :=
  ∃ (E : Nat → DEnt) (acc' : List Foot), (E k).α = α ∧ (E k).H = H ∧ (∀ i o, k ≤ i → ops[i]? = some o → TraceAt X N ops E i o) ∧ K (E ops.size).α (E ops.size).H (acc ++ acc') ∧
      (∀ i, k ≤ i → i < ops.size → ((E i).T = [] ∧ (E i).W = []) ∨ (i, (E i).W, (E i).T) ∈ acc') ∧ acc'.Pairwise (fun p q => p.1 < q.1) ∧ ∀ p ∈ acc', k ≤ p.1
section
variable {X : Cx} {N : Nat} {ops : Array Oper}
theorem Tr.nil {k : Nat} (hk : ops.size ≤ k) (hk' : k ≤ ops.size) {α : AAct} {H : AHeap} {acc : List Foot} {K : AAct → AHeap → List Foot → Prop} (h : K α H acc) : Tr X N ops k α H acc K := by
  refine ⟨fun _ => ⟨α, H, .any, [], []⟩, [], rfl, rfl, fun i o hi ho => ?_, by rw [List.append_nil]; exact h, fun i h1 h2 => by omega, .nil, by simp⟩
  have := (Array.getElem?_eq_some_iff.1 ho).1
  omega
theorem Tr.cons {k : Nat} {o : Oper} (ho : ops[k]? = some o) {α : AAct} {H : AHeap} {acc : List Foot} {K : AAct → AHeap → List Foot → Prop} {v : V} {effs : List Eff} {rd : List (Nat × Nat)}
    (hdd : DDoes X N ops o ⟨α, H, v, effs, rd⟩) (hrest : Tr X N ops (k + 1) (aput o.dst v α) (apps effs H) (footD k rd effs acc) K) : Tr X N ops k α H acc K := by
  have hlt := (Array.getElem?_eq_some_iff.1 ho).1
  obtain ⟨f, hf1, hff⟩ : ∃ f, footD k rd effs acc = acc ++ f ∧ ((f = [] ∧ rd = [] ∧ effs = []) ∨ (f = [(k, effs.map Eff.blk, rd.map (·.1) ++ effs.map Eff.blk)])) := by
    unfold footD
    split
    · exact ⟨[], by simp, .inl ⟨rfl, rfl, rfl⟩⟩
    · exact ⟨_, rfl, .inr rfl⟩
  rw [hf1] at hrest
  obtain ⟨E, acc', e1, e2, e3, e4, e5, e6, e7⟩ := hrest
  refine ⟨fun i => if i = k then ⟨α, H, v, effs, rd⟩ else E i, f ++ acc', by simp, by simp, ?_, ?_, ?_, ?_, ?_⟩
  · intro i o' hi ho'
    by_cases hik : i = k
    · subst hik
      rw [ho] at ho'
      injection ho' with ho'
      subst ho'
      exact ⟨by simpa using hdd, by simp [e1], by simp [e2]⟩
    · have := e3 i o' (by omega) ho'
      exact ⟨by simpa [hik] using this.1, by simpa [hik, show ¬ i + 1 = k by omega] using this.2, by simpa [hik, show ¬ i + 1 = k by omega] using this.3⟩
  · simp only [show ¬ ops.size = k by omega, if_false]
    simpa using e4
  · intro i h1 h2
    by_cases hik : i = k
    · subst hik
      simp only [if_true]
      rcases hff with ⟨rfl, rfl, rfl⟩ | rfl
      · exact .inl ⟨rfl, rfl⟩
      · exact .inr (by simp [DEnt.W, DEnt.T])
    · simp only [hik, if_false]
      rcases e5 i (by omega) h2 with h3 | h3
      · exact .inl h3
      · exact .inr (by simp [h3])
  · rw [List.pairwise_append]
    refine ⟨?_, e6, fun p hp q hq => ?_⟩
    · rcases hff with ⟨rfl, _⟩ | rfl
      · exact .nil
      · exact List.pairwise_singleton _ _
    · have := e7 q hq
      rcases hff with ⟨rfl, _⟩ | rfl
      · simp at hp
      · simp at hp; subst hp; simp only; omega
  · intro p hp
    rcases List.mem_append.1 hp with hp | hp
    · rcases hff with ⟨rfl, _⟩ | rfl
      · simp at hp
      · simp at hp; subst hp; exact Nat.le_refl _
    · have := e7 p hp; omega
end
theorem AWp_of_Tr {X : Cx} {N : Nat} {id : Nat} {ops : Array Oper} {qn qr : Cont} {qe : Nat → Cont} {α : AAct} {H : AHeap} (hm : X.P.follows .mixedOrders = true) (hst : regOk ops = true)
    (h : H.Fresh → Tr X N ops 0 α H [] (fun α' H' acc => pairsOk (clOf ops) acc ∧ qn α' H')) : AWp X N (.region id ops true) qn qr qe α H := by
  intro ro w0 B μ0 μ w a _ hg he hs ha hl hH hM
  obtain ⟨E, acc, e1, e2, e3, ⟨e4, e5⟩, e6, e7, e8⟩ := h hs.fresh
  simp only [List.nil_append] at e4
  have hap : ∀ j i, j < i → i < ops.size → ((clOf ops).getD i 0).testBit j = false → disj (E j).W (E i).T ∧ disj (E i).W (E j).T := by
    intro j i hji hi hb
    have ej := e6 j (Nat.zero_le _) (by omega)
    have ei := e6 i (Nat.zero_le _) hi
    rcases ej with ⟨t1, t2⟩ | t1
    · rw [t1, t2]; exact ⟨fun x hx => by simp at hx, fun x _ y hy => by simp at hy⟩
    · rcases ei with ⟨t3, t4⟩ | t3
      · rw [t3, t4]; exact ⟨fun x _ y hy => by simp at hy, fun x hx => by simp at hx⟩
      · exact e4.spec e7 _ t1 _ t3 hji hb
  have C : Chain X N ops (clOf ops) E := ⟨regOk_spec hst, fun i o ho => e3 i o (Nat.zero_le _) ho, hap⟩
  have hno : (fun i => (Array.replicate ops.size false).getD i false) = fun _ => false := by
    funext i
    simp [Array.getD]
  have h0A : ∀ k, ovA ops E (fun _ => false) k = α := by
    intro k
    induction k with
    | zero => exact e1
    | succ k ih => simpa [ovA] using ih
  have h0H : ∀ k, ovH E (fun _ => false) k = H := by
    intro k
    induction k with
    | zero => exact e2
    | succ k ih => simpa [ovH] using ih
  have hcnt : ∀ n, cntL (fun _ => false) n = n := by
    intro n
    induction n with
    | zero => rfl
    | succ n ih => simp [cntL, ih]
  refine Go.wpIn_region_any hm ?_
  refine wpAny_of_chain (ro := ro) (X := X) (N := N) C hg (w0 := w0) (B := B) ?_ ops.size _ a w.drew μ (by simp) ?_ ?_ he ?_ ?_ ?_ ?_ hM
  · intro a' w' μ' k1 k2 k3 k4 k5 k6
    exact ⟨_, _, μ', e5, k1, k2, k3, k4, k5, k6⟩
  · rw [hno, hcnt]; exact Nat.le_refl _
  · rw [hno]; intro i o _ h; cases h
  · rw [hno, h0H]; exact hs.drew
  · rw [hno, h0A]; exact ha
  · rw [hno, h0A, h0H]; exact hl
  · rw [hno, h0H]; exact hH

/-! Scripts. -/
/-- What a script says of an operation: nothing; its value; what a call leaves. -/
inductive Scr where
  | no
  | val (v : V)
  | call (v : V) (l : LH)
  | mset (es : List (V × V))
structure Wk where
  X : Cx
  sh : Nat → Nat → Scr
  hint : Tmp → Hint
  N : Nat
  Γ : Tab
  know : ∀ μ, X.K μ
  tab : TabOk X Γ
  mixed : X.P.follows .mixedOrders = true

def needF : V → Bool
  | .ptr _ _ => true
  | .msl _ _ _ _ => true
  | .fn _ _ cs => cs.any fun c => match c with | .ptr _ _ => true | .msl _ _ _ _ => true | _ => false
  | .agg cs => cs.any fun c => match c with | .ptr _ _ => true | .msl _ _ _ _ => true | _ => false
  | _ => false
/-- A call that hands back this and writes nothing. -/
def pcS (X : Cx) (g : FuncId) (args : List V) (l : LH) (s : V) : Prop :=
  match args.any needF with
  | false => PureCall X g args s
  | true => match plain 8 s with
    | true => LowL 0 (args.map (frz1 (toH l) 8)) ∧ PureCall X g (args.map (frz1 (toH l) 8)) s
    | false => False
def pcR (args : List V) (l : LH) : List (Nat × Nat) :=
  match args.any needF with
  | false => []
  | true => (args.flatMap (frzK1 (toH l) 8)).map fun b => (b, 0)
theorem pcS_calls {X : Cx} (hK : ∀ μ, X.K μ) {g : FuncId} {args : List V} {l : LH} {s : V} (h : pcS X g args l s) : ACalls X g args (toH l) (fun v H' => v = s ∧ H' = toH l) := by
  unfold pcS at h
  split at h
  · exact h (toH l)
  · split at h
    · rename_i hp
      exact ACalls.frozen1 hK 8 8 h.1 hp h.2
    · exact h.elim
theorem pcS_rcall {X : Cx} (hK : ∀ μ, X.K μ) {g : FuncId} {args : List V} {l : LH} {s : V} (h : pcS X g args l s) : RCall X g args (toH l) (pcR args l) s [] := by
  unfold pcS at h
  unfold pcR
  split at h
  · exact h.rcall _
  · split at h
    · rename_i hp
      exact RCall.frozen1 hK 8 8 h.1 hp h.2
    · exact h.elim

/-- A call that the table answers. -/
def gamK (W : Wk) (g : FuncId) (args : List V) (l : LH) (k : V → Prop) : Prop :=
  match args.any needF with
  | false => match W.Γ g args with | some v => k v | none => False
  | true => match W.Γ g (args.map (frz1 (toH l) 8)) with
    | some v => (match plain 8 v with | true => LowL 0 (args.map (frz1 (toH l) 8)) ∧ k v | false => False)
    | none => False
theorem gamK_spec {W : Wk} {g : FuncId} {args : List V} {l : LH} {k : V → Prop} (h : gamK W g args l k) : ∃ v, pcS W.X g args l v ∧ k v := by
  unfold gamK at h
  split at h
  · rename_i hn
    split at h
    · rename_i v hv
      refine ⟨v, ?_, h⟩
      unfold pcS
      rw [hn]
      exact W.tab _ _ _ hv
    · exact h.elim
  · rename_i hn
    split at h
    · rename_i v hv
      split at h
      · rename_i hp
        refine ⟨v, ?_, h.2⟩
        unfold pcS
        rw [hn, hp]
        exact ⟨h.1, W.tab _ _ _ hv⟩
      · exact h.elim
    · exact h.elim

/-- What a map has at a key. -/
def lkV (z : V) (k : V) (es : List (V × V)) : Option V := match mfind k es 0 with | some (some (_, v)) => some v | some none => some z | none => none
def lkV2 (z : V) (k : V) (es : List (V × V)) : Option V := match mfind k es 0 with | some (some (_, v)) => some (.tup [v, .bool true]) | some none => some (.tup [z, .bool false]) | none => none
/-- A map with an entry. -/
def msetE (k v : V) (es : List (V × V)) : Option (List (V × V)) := match mfind k es 0 with | some (some (i, _)) => some (es.set i (k, v)) | some none => some (es ++ [(k, v)]) | none => none
structure SRec where
  ps : List Prop
  v : V
  rd : List (Nat × Nat)
  es : List Eff
def lookS (P : Program) (H : AHeap) (t : TypeId) (m k : V) (c : Bool) (u : V) : Option SRec :=
  match mapOf P t, m with
  | some (kt, et), .mp b =>
    match H.get b with
    | some (.map es) =>
      match zeroV P et with
      | some z => (match isKeyT P kt k with | true => some ⟨[(match c with | true => lkV2 (ofValue z) k es | false => lkV (ofValue z) k es) = some u], u, [(b, 0)], []⟩ | false => none)
      | none => none
    | _ => none
  | _, _ => none
def msetS (P : Program) (H : AHeap) (t : TypeId) (m k v : V) (es' : List (V × V)) : Option SRec :=
  match mapOf P t, m with
  | some (kt, _), .mp b =>
    match H.get b with
    | some (.map es) => (match isKeyT P kt k with | true => some ⟨[msetE k v es = some es'], .any, [(b, 0)], [.mset b es']⟩ | false => none)
    | _ => none
  | _, _ => none
def recS (X : Cx) (s : Scr) (hint : Hint) (ρ : Operand → V) (l : LH) (op : Op) : Option SRec :=
  match op, s with
  | .lookup t m k c, .val u => lookS X.P (toH l) t (ρ m) (ρ k) c u
  | .mapUpdate t m k v, .mset es' => msetS X.P (toH l) t (ρ m) (ρ k) (ρ v) es'
  | op, .val u => match okS X hint ρ (toH l) op with
    | some ps => some ⟨ps ++ [(arec X hint l.length ρ (toH l) op).val = u], u, (arec X hint l.length ρ (toH l) op).reads, (arec X hint l.length ρ (toH l) op).effs⟩
    | none => none
  | op, _ => match okS X hint ρ (toH l) op with
    | some ps => some ⟨ps, (arec X hint l.length ρ (toH l) op).val, (arec X hint l.length ρ (toH l) op).reads, (arec X hint l.length ρ (toH l) op).effs⟩
    | none => none
theorem lookS_spec {P : Program} {H : AHeap} {t : TypeId} {m k : V} {c : Bool} {u : V} {r : SRec} (h : lookS P H t m k c u = some r) (hp : ∀ p ∈ r.ps, p) :
    (lookupR P H t m k c).ok ∧ (lookupR P H t m k c).val = r.v ∧ (lookupR P H t m k c).reads = r.rd ∧ (lookupR P H t m k c).effs = r.es := by
  unfold lookS at h
  split at h
  · rename_i kt et b hm
    split at h
    · rename_i es hb
      split at h
      · rename_i z hz
        split at h
        · rename_i hk
          cases h
          have h1 := hp _ (List.mem_singleton.2 rfl)
          unfold lookupR
          simp only [hm, hb]
          cases c <;> simp only [lkV, lkV2] at h1 <;> split at h1 <;> rename_i hf <;> simp only [hf, hz] <;> first | cases h1 | skip
          all_goals (refine ⟨hk, ?_, ?_, ?_⟩ <;> first | rfl | trivial)
        · cases h
      · cases h
    · cases h
  · cases h
theorem msetS_spec {P : Program} {H : AHeap} {t : TypeId} {m k v : V} {es' : List (V × V)} {r : SRec} (h : msetS P H t m k v es' = some r) (hp : ∀ p ∈ r.ps, p) :
    (mupR P H t m k v).ok ∧ (mupR P H t m k v).val = r.v ∧ (mupR P H t m k v).reads = r.rd ∧ (mupR P H t m k v).effs = r.es := by
  unfold msetS at h
  split at h
  · rename_i kt b hm
    split at h
    · rename_i es hb
      split at h
      · rename_i hk
        cases h
        have h1 := hp _ (List.mem_singleton.2 rfl)
        unfold mupR
        simp only [hm, hb]
        unfold msetE at h1
        split at h1 <;> rename_i hf <;> simp only [hf] <;> first | cases h1 | skip
        all_goals (refine ⟨hk, ?_, ?_, ?_⟩ <;> first | rfl | trivial)
      · cases h
    · cases h
  · cases h
theorem recS_spec {X : Cx} {s : Scr} {hint : Hint} {ρ : Operand → V} {l : LH} {op : Op} {r : SRec} (h : recS X s hint ρ l op = some r) (hp : ∀ p ∈ r.ps, p) :
    (arec X hint l.length ρ (toH l) op).ok ∧ (arec X hint l.length ρ (toH l) op).val = r.v ∧ (arec X hint l.length ρ (toH l) op).reads = r.rd ∧ (arec X hint l.length ρ (toH l) op).effs = r.es := by
  unfold recS at h
  split at h
  · exact lookS_spec h hp
  · exact msetS_spec h hp
  · split at h
    · rename_i ps hps
      cases h
      exact ⟨okS_ok hps fun p hq => hp p (List.mem_append_left _ hq), hp _ (List.mem_append_right _ (List.mem_singleton.2 rfl)), rfl, rfl⟩
    · cases h
  · split at h
    · rename_i ps hps
      cases h
      exact ⟨okS_ok hps hp, rfl, rfl, rfl⟩
    · cases h

def effS (es : List Eff) (l : LH) (k : LH → Prop) : Prop := match appsL es l with | some l' => k l' | none => False
/-- An operation that is carried out. -/
def opS (W : Wk) (s : Scr) (hint : Hint) (ρ : Operand → V) (l : LH) (k : V → LH → Prop) : Op → Prop
  | .call ⟨.value f, args, _⟩ =>
    match ρ f with
    | .fn (.func g) first caps =>
      match s with
      | .val u => pcS W.X g (first ++ args.toList.map ρ ++ caps) l u ∧ k u l
      | .call u l' => ACalls W.X g (first ++ args.toList.map ρ ++ caps) (toH l) (fun v H' => v = u ∧ H' = toH l') ∧ k u l'
      | .no => gamK W g (first ++ args.toList.map ρ ++ caps) l fun u => k u l
      | .mset _ => False
    | .yld b =>
      match s with
      | .call u l' => AYields W.X b (args.toList.map ρ) (toH l) (fun v H' => v = u ∧ H' = toH l') ∧ k u l'
      | _ => False
    | _ => False
  | op =>
    match recS W.X s hint ρ l op with
    | some r => allP r.ps (effS r.es l fun l' => k r.v l')
    | none => False
theorem effS_spec {es : List Eff} {l : LH} {k : LH → Prop} (h : effS es l k) : ∃ l', apps es (toH l) = toH l' ∧ k l' := by
  unfold effS at h
  split at h
  · rename_i l' hl
    exact ⟨l', (appsL_spec hl).1, h⟩
  · exact h.elim
/-- A continuation over heaps that are lists. -/
def onL (k : V → LH → Prop) : V → AHeap → Prop := fun v H => ∃ l, H = toH l ∧ k v l
theorem opS_spec {W : Wk} {s : Scr} {hint : Hint} {ρ : Operand → V} {l : LH} {k : V → LH → Prop} {o : Oper} (h : opS W s hint ρ l k o.op) : astep W.X (tabL []) hint o ρ (toH l) (onL k) := by
  have gen : ∀ op : Op, (match recS W.X s hint ρ l op with
    | some r => allP r.ps (effS r.es l fun l' => k r.v l')
    | none => False) → (arec W.X hint (toH l).n ρ (toH l) op).ok ∧ onL k (arec W.X hint (toH l).n ρ (toH l) op).val (apps (arec W.X hint (toH l).n ρ (toH l) op).effs (toH l)) := by
    intro op h
    split at h
    · rename_i r hr
      obtain ⟨h1, h2⟩ := allP_iff.1 h
      obtain ⟨l', h3, h4⟩ := effS_spec h2
      obtain ⟨k1, k2, k3, k4⟩ := recS_spec hr h1
      refine ⟨k1, l', ?_, ?_⟩
      · have : (arec W.X hint (toH l).n ρ (toH l) op).effs = r.es := k4
        rw [this]; exact h3
      · have : (arec W.X hint (toH l).n ρ (toH l) op).val = r.v := k2
        rw [this]; exact h4
    · exact h.elim
  unfold astep
  generalize o.op = op at h ⊢
  cases op with
  | call c =>
    obtain ⟨callee, args, ts⟩ := c
    cases callee with
    | value f =>
      simp only [opS] at h
      simp only
      split at h
      · rename_i g first caps hf
        simp only [hf, tabL]
        split at h
        · exact (pcS_calls W.know h.1).mono fun v H' ⟨e1, e2⟩ => ⟨l, e2, e1 ▸ h.2⟩
        · rename_i u l'
          exact h.1.mono fun v H' ⟨e1, e2⟩ => ⟨l', e2, e1 ▸ h.2⟩
        · obtain ⟨u, h1, h2⟩ := gamK_spec h
          exact (pcS_calls W.know h1).mono fun v H' ⟨e1, e2⟩ => ⟨l, e2, e1 ▸ h2⟩
        · exact h.elim
      · rename_i b hf
        simp only [hf]
        split at h
        · rename_i u l'
          intro ro w0 B μ w vals l1 L hl hs hg hr l1' l2
          obtain ⟨f, tmps, assign, body, q1, q2⟩ := h.1 ro w0 B μ w vals l1 L hl hs hg hr l1' l2
          exact ⟨f, tmps, assign, body, q1, q2.mono fun e w' ⟨v, x, μ', H', e1, e2, e3, e4, e6, e5, e7⟩ => ⟨v, x, μ', H', e1, e2, e3, e4, e6, l', e7, e5 ▸ h.2⟩⟩
        · exact h.elim
      · exact h.elim
    | _ => exact gen _ h
  | _ => exact gen _ h

def recG (g : Bool) (l : LH) (k : V → LH → Prop) (r : Option SRec) : Prop :=
  match r with
  | some r => allP (r.ps.map fun p => g = true → p) (match r.es with
    | [] => k r.v l
    | e :: es => (g = true → effS (e :: es) l fun l' => k r.v l') ∧ (g = false → k .any l))
  | none => False
/-- An operation under a guard. -/
def opG (W : Wk) (s : Scr) (hint : Hint) (g : Bool) (ρ : Operand → V) (l : LH) (k : V → LH → Prop) : Op → Prop
  | .call ⟨.value f, args, _⟩ =>
    match ρ f with
    | .fn (.func h) first caps =>
      match s with
      | .val u => (g = true → pcS W.X h (first ++ args.toList.map ρ ++ caps) l u) ∧ k u l
      | .no => gamK W h (first ++ args.toList.map ρ ++ caps) l fun u => k u l
      | _ => False
    | _ => False
  | op => recG g l k (recS W.X s hint ρ l op)
def gdS (g : Bool) (ρ : Operand → V) : List Operand → List Prop
  | [] => []
  | x :: r => match ρ x with | .opt g' _ => (g = true → g' = true) :: gdS g ρ r | _ => gdS g ρ r
theorem gdS_ok {g : Bool} {ρ : Operand → V} : ∀ {l : List Operand}, (∀ p ∈ gdS g ρ l, p) → gdAll g ρ l
  | [], _ => trivial
  | x :: r, h => by
    unfold gdS at h
    split at h
    · rename_i g' v hx
      refine ⟨fun q => ?_, gdS_ok fun p hp => h p (List.mem_cons_of_mem _ hp)⟩
      rw [hx]
      exact h _ List.mem_cons_self q
    · rename_i hx
      refine ⟨fun _ => ?_, gdS_ok h⟩
      cases hv : ρ x <;> first | rfl | exact absurd hv (hx _ _)

def gdW (g t w : Bool) (v : V) : List Prop := match v with | .opt g' _ => [g = true → t = w → g' = true] | _ => []
/-- What a guarded operation asks of its operands' guards. -/
def gdO (g : Bool) (ρ : Operand → V) : Op → List Prop
  | .pick c a b => gdS g ρ [c] ++ (match (ρ c).core with | .bool t => gdW g t true (ρ a) ++ gdW g t false (ρ b) | _ => [False])
  | op => gdS g ρ op.operands.toList
theorem gdW_ok {g t w : Bool} {v : V} (h : ∀ p ∈ gdW g t w v, p) (hg : g = true) (ht : t = w) : v.gd = true := by
  unfold gdW at h
  split at h
  · exact h _ List.mem_cons_self hg ht
  · rename_i hv
    cases v <;> first | rfl | exact absurd rfl (hv _ _)
theorem pickV_true (x y : V) : pickV true x y = x := by cases x <;> cases y <;> rfl
theorem pickV_false (x y : V) : pickV false x y = y := by cases x <;> cases y <;> rfl
theorem pick_coreB {X : Cx} {hint : Hint} {nid : Nat} {H : AHeap} {ρ : Operand → V} {g : Bool} {c a b : Operand} (h : ∀ p ∈ gdO g ρ (.pick c a b), p) (hg : g = true) (hok : (arec X hint nid (V.coreOf ρ) H (.pick c a b)).ok) :
    (arec X hint nid (fun x => (ρ x).coreB) H (.pick c a b)).ok ∧ (arec X hint nid (fun x => (ρ x).coreB) H (.pick c a b)).val = (arec X hint nid (V.coreOf ρ) H (.pick c a b)).val ∧
      (arec X hint nid (fun x => (ρ x).coreB) H (.pick c a b)).effs = [] ∧ (arec X hint nid (fun x => (ρ x).coreB) H (.pick c a b)).reads = [] ∧ (arec X hint nid (V.coreOf ρ) H (.pick c a b)).effs = [] ∧ (arec X hint nid (V.coreOf ρ) H (.pick c a b)).reads = [] := by
  simp only [gdO] at h
  have hc : (ρ c).gd = true := by
    have := gdS_ok (g := g) (ρ := ρ) (l := [c]) (fun p hp => h p (List.mem_append_left _ hp))
    exact this.1 hg
  have hcc : (ρ c).coreB = (ρ c).core := coreB_core hc
  simp only [arec, V.coreOf, hcc] at hok ⊢
  cases hct : (ρ c).core with
  | bool t =>
    rw [hct] at h hok
    simp only at hok h ⊢
    cases t with
    | true =>
      have ha : (ρ a).gd = true := gdW_ok (fun p hp => h p (List.mem_append_right _ (List.mem_append_left _ hp))) hg rfl
      rw [coreB_core ha]
      refine ⟨⟨fun _ => hok.1 rfl, fun q => Bool.noConfusion q⟩, ?_, rfl, rfl, rfl, rfl⟩
      simp only [must, pickV_true]
    | false =>
      have hb : (ρ b).gd = true := gdW_ok (fun p hp => h p (List.mem_append_right _ (List.mem_append_right _ hp))) hg rfl
      rw [coreB_core hb]
      refine ⟨⟨fun q => Bool.noConfusion q, fun _ => hok.2 rfl⟩, ?_, rfl, rfl, rfl, rfl⟩
      simp only [must, pickV_false]
  | _ => rw [hct] at hok; exact hok.elim
/-- What is worked out without the guards holds with them: a step. -/
theorem astep_coreB {X : Cx} {hint : Hint} {H : AHeap} {ρ : Operand → V} {g : Bool} {o : Oper} {K : V → AHeap → Prop} (h : ∀ p ∈ gdO g ρ o.op, p) (hg : g = true) (hs : astep X (tabL []) hint o (V.coreOf ρ) H K) : astep X (tabL []) hint o (fun x => (ρ x).coreB) H K := by
  have cong : (∀ p ∈ gdS g ρ o.op.operands.toList, p) → astep X (tabL []) hint o (fun x => (ρ x).coreB) H K := fun h => by
    rw [← astep_congr fun x hx => (coreB_core (gdAll_mem (gdS_ok h) hg x (by simpa using hx))).symm]
    exact hs
  cases hop : o.op with
  | pick c a b =>
    rw [hop] at h
    unfold astep at hs ⊢
    simp only [hop] at hs ⊢
    obtain ⟨h1, h2⟩ := hs
    obtain ⟨k1, k2, k3, k4, k5, k6⟩ := pick_coreB h hg h1
    rw [k2, k3]
    rw [k5] at h2
    exact ⟨k1, h2⟩
  | _ => exact cong (by rw [hop] at h ⊢; exact h)
/-- The same of a drawn region's step. -/
theorem dstep_coreB {X : Cx} {hint : Hint} {nid : Nat} {H : AHeap} {ρ : Operand → V} {g : Bool} {o : Oper} {r : Rec} (h : ∀ p ∈ gdO g ρ o.op, p) (hg : g = true) (hs : dstep X hint nid o (V.coreOf ρ) H r) : ∃ r', dstep X hint nid o (fun x => (ρ x).coreB) H r' ∧ r'.val = r.val ∧ r'.effs = r.effs ∧ r'.reads = r.reads := by
  have cong : (∀ p ∈ gdS g ρ o.op.operands.toList, p) → ∃ r', dstep X hint nid o (fun x => (ρ x).coreB) H r' ∧ r'.val = r.val ∧ r'.effs = r.effs ∧ r'.reads = r.reads := fun h =>
    ⟨r, dstep_congr (fun x hx => (coreB_core (gdAll_mem (gdS_ok h) hg x (by simpa using hx))).symm) hs, rfl, rfl, rfl⟩
  cases hop : o.op with
  | pick c a b =>
    rw [hop] at h
    unfold dstep at hs ⊢
    simp only [hop] at hs ⊢
    obtain ⟨rfl, h1⟩ := hs
    obtain ⟨k1, k2, k3, k4, k5, k6⟩ := pick_coreB h hg h1
    exact ⟨_, ⟨rfl, k1⟩, k2, by rw [k3, k5], by rw [k4, k6]⟩
  | _ => exact cong (by rw [hop] at h ⊢; exact h)

/-! Regions in the text's order. -/
def sOps (W : Wk) (rid : Nat) (ops : Array Oper) : List Oper → Nat → AAct → LH → (AAct → LH → Prop) → Prop
  | [], _, α, l, K => K α l
  | o :: rest, i, α, l, K =>
    match dstB W.N o.dst with
    | false => False
    | true =>
      match o.guard with
      | none => opS W (W.sh rid (o.dst.getD (100000 + 100 * rid + i))) (W.hint (o.dst.getD 0)) (aeval W.X α) l (fun v l' => sOps W rid ops rest (i + 1) (aput o.dst v α) l' K) o.op
      | some (j, want) =>
        match guardV want (gtmp ops j α) with
        | none => False
        | some g => allP (gdO g (aeval W.X α) o.op)
            (opG W (W.sh rid (o.dst.getD (100000 + 100 * rid + i))) (W.hint (o.dst.getD 0)) g (V.coreOf (aeval W.X α)) l (fun v l' => sOps W rid ops rest (i + 1) (aput o.dst (.opt g v) α) l' K) o.op)

section
variable {W : Wk} {w0 : Base} {B : Nat} {μ0 : Mem}
theorem opG_spec {ro : Option Nat} {s : Scr} {hint : Hint} {g : Bool} {l : LH} {k : V → LH → Prop} {o : Oper} {α : AAct} {μ : Mem} {w : World} {a : Act} (hs : Sim w0 B μ (toH l) w) (hg : GRep W.X μ) (ha : ARep μ W.N α a) (hal : ALow (toH l).n α) (hH : LowH (toH l).n (toH l))
    (hgd : ∀ p ∈ gdO g (aeval W.X α) o.op, p) (h : opG W s hint g (V.coreOf (aeval W.X α)) l k o.op) {next : Act → World → Prop} {Q : Exit → Act → World → Prop}
    (hn : ∀ v x μ' l' w', VRep μ' (.opt g v) x → Ext μ μ' → Sim w0 B μ' (toH l') w' → (Low (toH l').n (.opt g v) ∧ LowH (toH l').n (toH l') ∧ (toH l).n ≤ (toH l').n) → k v l' → next (a.put o.dst x) w') :
    (g = true → o.wpIn (fen ro) 0 W.X.P a w next Q) ∧ (g = false → next (a.put o.dst undef) w) := by
  have undefO : g = false → ∀ u, VRep μ (.opt g u) undef := fun q u => .opt g u undef (fun q' => by rw [q] at q'; cases q') (fun _ => rfl)
  have lowO : g = false → ∀ u, Low (toH l).n (.opt g u) := fun q u => .opt _ _ (fun q' => by rw [q] at q'; cases q')
  -- carried out
  have go : ∀ (K : V → AHeap → Prop), (g = true → astep W.X (tabL []) hint o (V.coreOf (aeval W.X α)) (toH l) K) → (∀ v H', K v H' → ∃ l', H' = toH l' ∧ k v l') → g = true → o.wpIn (fen ro) 0 W.X.P a w next Q := by
    intro K hst hk hgt
    have hst := astep_coreB hgd hgt (hst hgt)
    refine step_sound (tab0_ok W.X) hs hg (fun x => vrep_coreB (aeval_rep ha hg x)) (fun x => low_coreB (aeval_low hal hg x)) hH hst ?_
    intro v x μ' H' w' k1 k2 k3 ⟨k4, k5, k6⟩ k7
    obtain ⟨l', rfl, k8⟩ := hk v H' k7
    exact hn v x μ' l' w' (.opt g v x (fun _ => k1) (fun q => by rw [hgt] at q; cases q)) k2 k3 ⟨.opt _ _ fun _ => k4, k5, k6⟩ k8
  have gen : ∀ op : Op, o.op = op → (∀ K : V → AHeap → Prop, (arec W.X hint (toH l).n (V.coreOf (aeval W.X α)) (toH l) op).ok ∧ K (arec W.X hint (toH l).n (V.coreOf (aeval W.X α)) (toH l) op).val (apps (arec W.X hint (toH l).n (V.coreOf (aeval W.X α)) (toH l) op).effs (toH l)) → astep W.X (tabL []) hint o (V.coreOf (aeval W.X α)) (toH l) K) →
    recG g l k (recS W.X s hint (V.coreOf (aeval W.X α)) l op) → (g = true → o.wpIn (fen ro) 0 W.X.P a w next Q) ∧ (g = false → next (a.put o.dst undef) w) := by
    intro op _ hop h
    unfold recG at h
    split at h
    · rename_i r hr
      obtain ⟨h1, h2⟩ := allP_iff.1 h
      have hrec : g = true → (arec W.X hint l.length (V.coreOf (aeval W.X α)) (toH l) op).ok ∧ (arec W.X hint l.length (V.coreOf (aeval W.X α)) (toH l) op).val = r.v ∧ (arec W.X hint l.length (V.coreOf (aeval W.X α)) (toH l) op).reads = r.rd ∧ (arec W.X hint l.length (V.coreOf (aeval W.X α)) (toH l) op).effs = r.es :=
        fun hgt => recS_spec hr fun p hp => h1 _ (List.mem_map.2 ⟨p, hp, rfl⟩) hgt
      split at h2
      · rename_i hes
        refine ⟨fun hgt => go (fun v H' => v = r.v ∧ H' = toH l) (fun _ => hop _ ⟨(hrec hgt).1, (hrec hgt).2.1, ?_⟩) (fun v H' ⟨e1, e2⟩ => ⟨l, e2, e1 ▸ h2⟩) hgt, fun hgf => hn r.v undef μ l w (undefO hgf r.v) (Ext.refl μ) hs ⟨lowO hgf r.v, hH, Nat.le_refl _⟩ h2⟩
        have : (arec W.X hint (toH l).n (V.coreOf (aeval W.X α)) (toH l) op).effs = [] := (hrec hgt).2.2.2.trans hes
        rw [this]; rfl
      · rename_i e es hes
        refine ⟨fun hgt => ?_, fun hgf => hn .any undef μ l w (undefO hgf .any) (Ext.refl μ) hs ⟨lowO hgf .any, hH, Nat.le_refl _⟩ (h2.2 hgf)⟩
        obtain ⟨l', h3, h4⟩ := effS_spec (h2.1 hgt)
        refine go (fun v H' => v = r.v ∧ H' = toH l') (fun _ => hop _ ⟨(hrec hgt).1, (hrec hgt).2.1, ?_⟩) (fun v H' ⟨e1, e2⟩ => ⟨l', e2, e1 ▸ h4⟩) hgt
        have : (arec W.X hint (toH l).n (V.coreOf (aeval W.X α)) (toH l) op).effs = e :: es := (hrec hgt).2.2.2.trans hes
        rw [this]; exact h3
    · exact h.elim
  cases hop : o.op with
  | call c =>
    obtain ⟨callee, args, ts⟩ := c
    cases callee with
    | value f =>
      rw [hop] at h
      simp only [opG] at h
      split at h
      · rename_i h0 first caps hf
        split at h
        · rename_i u
          refine ⟨fun hgt => go (fun v H' => v = u ∧ H' = toH l) (fun _ => ?_) (fun v H' ⟨e1, e2⟩ => ⟨l, e2, e1 ▸ h.2⟩) hgt, fun hgf => hn u undef μ l w (undefO hgf u) (Ext.refl μ) hs ⟨lowO hgf u, hH, Nat.le_refl _⟩ h.2⟩
          unfold astep
          simp only [hop, hf, tabL]
          exact pcS_calls W.know (h.1 hgt)
        · obtain ⟨u, h1, h2⟩ := gamK_spec h
          refine ⟨fun hgt => go (fun v H' => v = u ∧ H' = toH l) (fun _ => ?_) (fun v H' ⟨e1, e2⟩ => ⟨l, e2, e1 ▸ h2⟩) hgt, fun hgf => hn u undef μ l w (undefO hgf u) (Ext.refl μ) hs ⟨lowO hgf u, hH, Nat.le_refl _⟩ h2⟩
          unfold astep
          simp only [hop, hf, tabL]
          exact pcS_calls W.know h1
        · exact h.elim
      · exact h.elim
    | _ => rw [hop] at h; exact gen _ hop (fun K hK => by unfold astep; simp only [hop]; exact hK) h
  | _ => rw [hop] at h; exact gen _ hop (fun K hK => by unfold astep; simp only [hop]; exact hK) h

theorem sOps_sound {ro : Option Nat} {rid : Nat} {ops : Array Oper} {Q : Exit → Act → World → Prop} {q : AAct → LH → Prop} (hQ : ∀ a' w', Post W.X w0 B W.N μ0 (fun α H => ∃ l, H = toH l ∧ q α l) a' w' → Q .normal a' w') (hg0 : GRep W.X μ0) :
    ∀ (os : List Oper) (i : Nat) (α : AAct) (l : LH) (μ : Mem) (w : World) (a : Act), Ext μ0 μ → Sim w0 B μ (toH l) w → ARep μ W.N α a → ALow (toH l).n α → LowH (toH l).n (toH l) → Marks μ0 μ a.defers → sOps W rid ops os i α l q → wpListIn (fen ro) 0 W.X.P ops Q os a w
  | [], i, α, l, μ, w, a, he, hs, ha, hal, hH, hM, h => wpListIn_nil (hQ a w ⟨α, toH l, μ, ⟨l, rfl, h⟩, he, hs, ha, hal, hH, hM⟩)
  | o :: rest, i, α, l, μ, w, a, he, hs, ha, hal, hH, hM, h => by
    have hg := hg0.mono he
    unfold sOps at h
    split at h
    · exact h.elim
    · rename_i hd
      have hd := dstB_ok hd
      refine wpListIn_step fun K hK => ?_
      split at h
      · rename_i hgd
        rw [if_pos (by simp [Region.wanted, hgd])]
        refine step_sound (tab0_ok W.X) hs hg (aeval_rep ha hg) (aeval_low hal hg) hH (opS_spec h) ?_
        rintro v x μ' H' w' k1 k2 k3 ⟨k4, k5, k6⟩ ⟨l', rfl, hk⟩
        exact hK _ _ (sOps_sound hQ hg0 rest _ _ l' μ' w' _ (he.trans k2) k3 ((ha.mono k2).put hd k1) ((hal.mono k6).put k4 _) k5 (by rw [put_defers]; exact hM.mono k2) hk)
      · rename_i j want hgd
        split at h
        · exact h.elim
        · rename_i g hgv
          have hw := guard_spec ha hgd hgv
          obtain ⟨h1, h2⟩ := allP_iff.1 h
          have := opG_spec (ro := ro) (Q := Q) (next := K) hs hg ha hal hH h1 h2 (fun v x μ' l' w' k1 k2 k3 ⟨k4, k5, k6⟩ hk => hK _ _ (sOps_sound hQ hg0 rest _ _ l' μ' w' _ (he.trans k2) k3 ((ha.mono k2).put hd k1) ((hal.mono k6).put k4 _) k5 (by rw [put_defers]; exact hM.mono k2) hk))
          cases g
          · rw [if_neg (by rw [hw]; simp)]
            exact ⟨fun f _ => fen_fn ro f, this.2 rfl⟩
          · rw [if_pos hw]
            exact this.1 rfl
end
end Go.Alt

/- The abstract layer, part 30: a walk that the kernel works out: drawn regions, statements, loops, functions. No condition. -/
namespace Go.Alt
open Go Go.RowKit

/-- An operation of a drawn region. -/
def opD (W : Wk) (s : Scr) (hint : Hint) (ρ : Operand → V) (l : LH) (k : V → List (Nat × Nat) → List Eff → LH → Prop) : Op → Prop
  | .call ⟨.value f, args, _⟩ =>
    match ρ f with
    | .fn (.func g) first caps =>
      match s with
      | .val u => pcS W.X g (first ++ args.toList.map ρ ++ caps) l u ∧ k u (pcR (first ++ args.toList.map ρ ++ caps) l) [] l
      | .no => gamK W g (first ++ args.toList.map ρ ++ caps) l fun u => k u (pcR (first ++ args.toList.map ρ ++ caps) l) [] l
      | _ => False
    | _ => False
  | op =>
    match recS W.X s hint ρ l op with
    | some r => allP r.ps (effS r.es l fun l' => k r.v r.rd r.es l')
    | none => False
def recDG (g : Bool) (l : LH) (k : V → List (Nat × Nat) → List Eff → LH → Prop) (r : Option SRec) : Prop :=
  match r with
  | some r => allP (r.ps.map fun p => g = true → p) (match r.es with
    | [] => k (.opt g r.v) r.rd [] l
    | e :: es => (g = true → effS (e :: es) l fun l' => k (.opt g r.v) r.rd (e :: es) l') ∧ (g = false → k (.opt g .any) [] [] l))
  | none => False
def opDG (W : Wk) (s : Scr) (hint : Hint) (g : Bool) (ρ : Operand → V) (l : LH) (k : V → List (Nat × Nat) → List Eff → LH → Prop) : Op → Prop
  | .call ⟨.value f, args, _⟩ =>
    match ρ f with
    | .fn (.func h) first caps =>
      match s with
      | .val u => (g = true → pcS W.X h (first ++ args.toList.map ρ ++ caps) l u) ∧ k (.opt g u) (pcR (first ++ args.toList.map ρ ++ caps) l) [] l
      | .no => gamK W h (first ++ args.toList.map ρ ++ caps) l fun u => k (.opt g u) (pcR (first ++ args.toList.map ρ ++ caps) l) [] l
      | _ => False
    | _ => False
  | op => recDG g l k (recS W.X s hint ρ l op)
def sD (W : Wk) (rid : Nat) (ops : Array Oper) : List Oper → Nat → AAct → LH → List Foot → (AAct → LH → List Foot → Prop) → Prop
  | [], _, α, l, acc, K => K α l acc
  | o :: rest, i, α, l, acc, K =>
    match dstB W.N o.dst with
    | false => False
    | true =>
      match o.guard with
      | none => opD W (W.sh rid (o.dst.getD (100000 + 100 * rid + i))) (W.hint (o.dst.getD 0)) (aeval W.X α) l (fun v rd es l' => sD W rid ops rest (i + 1) (aput o.dst v α) l' (footD i rd es acc) K) o.op
      | some (j, want) =>
        match guardV want (gtmp ops j α) with
        | none => False
        | some g => allP (gdO g (aeval W.X α) o.op)
            (opDG W (W.sh rid (o.dst.getD (100000 + 100 * rid + i))) (W.hint (o.dst.getD 0)) g (V.coreOf (aeval W.X α)) l (fun v rd es l' => sD W rid ops rest (i + 1) (aput o.dst v α) l' (footD i rd es acc) K) o.op)

section
variable {W : Wk}
/-- What a step leaves to do. -/
theorem opD_spec {s : Scr} {hint : Hint} {ρ : Operand → V} {l : LH} {k : V → List (Nat × Nat) → List Eff → LH → Prop} {o : Oper} (h : opD W s hint ρ l k o.op) :
    ∃ (r : Rec) (l' : LH), dstep W.X hint (toH l).n o ρ (toH l) r ∧ apps r.effs (toH l) = toH l' ∧ k r.val r.reads r.effs l' := by
  have gen : ∀ op : Op, o.op = op → (match recS W.X s hint ρ l op with
    | some r => allP r.ps (effS r.es l fun l' => k r.v r.rd r.es l')
    | none => False) → ∃ (r : Rec) (l' : LH), (r = arec W.X hint (toH l).n ρ (toH l) op ∧ r.ok) ∧ apps r.effs (toH l) = toH l' ∧ k r.val r.reads r.effs l' := by
    intro op _ h
    split at h
    · rename_i r hr
      obtain ⟨h1, h2⟩ := allP_iff.1 h
      obtain ⟨l', h3, h4⟩ := effS_spec h2
      obtain ⟨k1, k2, k3, k4⟩ := recS_spec hr h1
      have k2 : (arec W.X hint (toH l).n ρ (toH l) op).val = r.v := k2
      have k3 : (arec W.X hint (toH l).n ρ (toH l) op).reads = r.rd := k3
      have k4 : (arec W.X hint (toH l).n ρ (toH l) op).effs = r.es := k4
      exact ⟨arec W.X hint (toH l).n ρ (toH l) op, l', ⟨rfl, k1⟩, by rw [k4]; exact h3, by rw [k2, k3, k4]; exact h4⟩
    · exact h.elim
  cases hop : o.op with
  | call c =>
    obtain ⟨callee, args, ts⟩ := c
    cases callee with
    | value f =>
      rw [hop] at h
      simp only [opD] at h
      split at h
      · rename_i g first caps hf
        split at h
        · rename_i u
          refine ⟨⟨True, u, _, []⟩, l, ?_, rfl, h.2⟩
          unfold dstep
          simp only [hop, hf]
          exact ⟨pcS_rcall W.know h.1, trivial⟩
        · obtain ⟨u, h1, h2⟩ := gamK_spec h
          refine ⟨⟨True, u, _, []⟩, l, ?_, rfl, h2⟩
          unfold dstep
          simp only [hop, hf]
          exact ⟨pcS_rcall W.know h1, trivial⟩
        · exact h.elim
      · exact h.elim
    | _ =>
      rw [hop] at h
      obtain ⟨r, l', h1, h2⟩ := gen _ hop h
      exact ⟨r, l', by unfold dstep; simp only [hop]; exact h1, h2⟩
  | _ =>
    rw [hop] at h
    obtain ⟨r, l', h1, h2⟩ := gen _ hop h
    exact ⟨r, l', by unfold dstep; simp only [hop]; exact h1, h2⟩
theorem opDG_spec {s : Scr} {hint : Hint} {g : Bool} {ρ : Operand → V} {l : LH} {k : V → List (Nat × Nat) → List Eff → LH → Prop} {o : Oper} (h : opDG W s hint g ρ l k o.op) :
    ∃ (r : Rec) (v : V) (effs : List Eff) (rd : List (Nat × Nat)) (l' : LH), (g = true → dstep W.X hint (toH l).n o ρ (toH l) r) ∧ (g = true → v = r.val) ∧ (g = true → effs = r.effs) ∧ (g = false → effs = []) ∧ (g = true → rd = r.reads) ∧ apps effs (toH l) = toH l' ∧ k (.opt g v) rd effs l' := by
  have gen : ∀ op : Op, o.op = op → (∀ r, r = arec W.X hint (toH l).n ρ (toH l) op ∧ r.ok → dstep W.X hint (toH l).n o ρ (toH l) r) → recDG g l k (recS W.X s hint ρ l op) →
      ∃ (r : Rec) (v : V) (effs : List Eff) (rd : List (Nat × Nat)) (l' : LH), (g = true → dstep W.X hint (toH l).n o ρ (toH l) r) ∧ (g = true → v = r.val) ∧ (g = true → effs = r.effs) ∧ (g = false → effs = []) ∧ (g = true → rd = r.reads) ∧ apps effs (toH l) = toH l' ∧ k (.opt g v) rd effs l' := by
    intro op _ hd h
    unfold recDG at h
    split at h
    · rename_i r hr
      obtain ⟨h1, h2⟩ := allP_iff.1 h
      have hrec : g = true → (arec W.X hint (toH l).n ρ (toH l) op).ok ∧ (arec W.X hint (toH l).n ρ (toH l) op).val = r.v ∧ (arec W.X hint (toH l).n ρ (toH l) op).reads = r.rd ∧ (arec W.X hint (toH l).n ρ (toH l) op).effs = r.es :=
        fun hgt => recS_spec hr fun p hp => h1 _ (List.mem_map.2 ⟨p, hp, rfl⟩) hgt
      split at h2
      · rename_i hes
        exact ⟨arec W.X hint (toH l).n ρ (toH l) op, r.v, [], r.rd, l, fun q => hd _ ⟨rfl, (hrec q).1⟩, fun q => (hrec q).2.1.symm, fun q => ((hrec q).2.2.2.trans hes).symm, fun _ => rfl, fun q => (hrec q).2.2.1.symm, rfl, h2⟩
      · rename_i e es hes
        cases g with
        | true =>
          obtain ⟨l', h3, h4⟩ := effS_spec (h2.1 rfl)
          exact ⟨arec W.X hint (toH l).n ρ (toH l) op, r.v, e :: es, r.rd, l', fun q => hd _ ⟨rfl, (hrec q).1⟩, fun q => (hrec q).2.1.symm, fun q => ((hrec q).2.2.2.trans hes).symm, fun q => Bool.noConfusion q, fun q => (hrec q).2.2.1.symm, h3, h4⟩
        | false => exact ⟨arec W.X hint (toH l).n ρ (toH l) op, .any, [], [], l, fun q => Bool.noConfusion q, fun q => Bool.noConfusion q, fun q => Bool.noConfusion q, fun _ => rfl, fun q => Bool.noConfusion q, rfl, h2.2 rfl⟩
    · exact h.elim
  cases hop : o.op with
  | call c =>
    obtain ⟨callee, args, ts⟩ := c
    cases callee with
    | value f =>
      rw [hop] at h
      simp only [opDG] at h
      split at h
      · rename_i h0 first caps hf
        split at h
        · rename_i u
          refine ⟨⟨True, u, _, []⟩, u, [], _, l, fun q => ?_, fun _ => rfl, fun _ => rfl, fun _ => rfl, fun _ => rfl, rfl, h.2⟩
          unfold dstep
          simp only [hop, hf]
          exact ⟨pcS_rcall W.know (h.1 q), trivial⟩
        · obtain ⟨u, h1, h2⟩ := gamK_spec h
          refine ⟨⟨True, u, _, []⟩, u, [], _, l, fun q => ?_, fun _ => rfl, fun _ => rfl, fun _ => rfl, fun _ => rfl, rfl, h2⟩
          unfold dstep
          simp only [hop, hf]
          exact ⟨pcS_rcall W.know h1, trivial⟩
        · exact h.elim
      · exact h.elim
    | _ => rw [hop] at h; exact gen _ hop (fun r hr => by unfold dstep; simp only [hop]; exact hr) h
  | _ => rw [hop] at h; exact gen _ hop (fun r hr => by unfold dstep; simp only [hop]; exact hr) h
theorem sD_sound {rid : Nat} {ops : Array Oper} {K : AAct → LH → List Foot → Prop} : ∀ (os : List Oper) (i : Nat) (α : AAct) (l : LH) (acc : List Foot), ops.toList.drop i = os → i ≤ ops.size → sD W rid ops os i α l acc K →
    Tr W.X W.N ops i α (toH l) acc (fun α' H' acc' => ∃ l', H' = toH l' ∧ K α' l' acc')
  | [], i, α, l, acc, hd, hi, h => by
    refine Tr.nil ?_ hi ⟨l, rfl, h⟩
    have : ops.toList.length - i = 0 := by rw [← List.length_drop, hd]; rfl
    simp at this; omega
  | o :: rest, i, α, l, acc, hd, hi, h => by
    have hlt : i < ops.size := by
      rcases Nat.lt_or_ge i ops.size with h1 | h1
      · exact h1
      · rw [List.drop_eq_nil_of_le (by simpa using h1)] at hd; cases hd
    have ho : ops[i]? = some o := by
      have : (ops.toList.drop i)[0]? = some o := by rw [hd]; rfl
      simpa using this
    have hd' : ops.toList.drop (i + 1) = rest := by
      have : (ops.toList.drop i).drop 1 = rest := by rw [hd]; rfl
      rwa [List.drop_drop] at this
    unfold sD at h
    split at h
    · exact h.elim
    · rename_i hdst
      have hdst := dstB_ok hdst
      split at h
      · rename_i hg
        obtain ⟨r, l', h1, h2, h3⟩ := opD_spec h
        refine Tr.cons ho (ddoes_plain (toH_fresh l) hdst hg h1) ?_
        rw [h2]
        exact sD_sound rest (i + 1) _ l' _ hd' (by omega) h3
      · rename_i j want hg
        split at h
        · exact h.elim
        · rename_i g hgv
          obtain ⟨h1, h2⟩ := allP_iff.1 h
          obtain ⟨r, v, effs, rd, l', q1, q2, q3, q4, q5, q6, q7⟩ := opDG_spec h2
          have hdd : DDoes W.X W.N ops o ⟨α, toH l, .opt g v, effs, rd⟩ := by
            cases g with
            | true =>
              obtain ⟨r', e1, e2, e3, e4⟩ := dstep_coreB h1 rfl (q1 rfl)
              exact ddoes_guardB (r := r') (toH_fresh l) hdst hg hgv (fun _ => e1) v (fun q => (q2 q).trans e2.symm) effs (fun q => (q3 q).trans e3.symm) q4 rd (fun q => (q5 q).trans e4.symm)
            | false => exact ddoes_guardB (r := r) (hint := W.hint (o.dst.getD 0)) (toH_fresh l) hdst hg hgv (fun q => by cases q) v q2 effs q3 q4 rd q5
          refine Tr.cons ho hdd ?_
          rw [q6]
          exact sD_sound rest (i + 1) _ l' _ hd' (by omega) q7
end

/-! Statements. -/
inductive Kt where
  | code (c : Code)
  | blk (id : Nat)
  | mark (ks : List Nat) (q : List V → LH → Prop)
def onA (q : AAct → LH → Prop) : Cont := fun α H => ∃ l, H = toH l ∧ q α l
/-- What follows a piece of code: on its normal end, and by an exit. -/
def knS (X : Cx) (N : Nat) (qf : AAct → LH → Prop) : List Kt → Cont × (Nat → Cont)
  | [] => (onA qf, fun _ _ _ => False)
  | .code c :: k => (fun α H => AWp X N c (knS X N qf k).1 (onA qf) (knS X N qf k).2 α H, (knS X N qf k).2)
  | .blk id :: k => ((knS X N qf k).1, fun i α H => if i = id then (knS X N qf k).1 α H else (knS X N qf k).2 i α H)
  | .mark ks q :: k => (fun α H => ∃ l, H = toH l ∧ q (ks.map (aget α)) l, (knS X N qf k).2)
def AW (X : Cx) (N : Nat) (qf : AAct → LH → Prop) (k : List Kt) (α : AAct) (l : LH) : Prop := (knS X N qf k).1 α (toH l)
def popTo (id : Nat) : List Kt → Option (List Kt)
  | [] => none
  | .blk i :: k => match Nat.beq i id with | true => some k | false => popTo id k
  | .code _ :: k => popTo id k
  | .mark _ _ :: k => popTo id k

/-- The places that code looks at. -/
def usedO (l : List Operand) (acc : List Nat) : List Nat := l.foldl (fun a x => match x with | .tmp t => t :: a | _ => a) acc
def usedOps : List Oper → List Nat → List Nat
  | [], acc => acc
  | o :: r, acc => usedOps r (usedO o.op.operands.toList acc)
def usedC : Code → List Nat → List Nat
  | .seq a b, acc => usedC b (usedC a acc)
  | .cond (.tmp t) a b, acc => usedC b (usedC a (t :: acc))
  | .cond _ a b, acc => usedC b (usedC a acc)
  | .block _ c, acc => usedC c acc
  | .loop c, acc => usedC c acc
  | .region _ ops _, acc => usedOps ops.toList acc
  | .rangeFunc (.tmp t) _ a b, acc => usedC b (usedC a (t :: acc))
  | .rangeFunc _ _ a b, acc => usedC b (usedC a acc)
  | _, acc => acc
def usedK : List Kt → List Nat → List Nat
  | [], acc => acc
  | .code c :: k, acc => usedK k (usedC c acc)
  | .blk _ :: k, acc => usedK k acc
  | .mark ks _ :: k, acc => usedK k (ks ++ acc)
def usedR : List ResultVar → List Nat
  | [] => []
  | .tmp t :: r => t :: usedR r
  | .cell t _ :: r => t :: usedR r
def restr (us : List Nat) : AAct → AAct
  | [] => []
  | (k, v) :: r => match hasK k us with | true => (k, v) :: restr us r | false => restr us r
def cutA (rs : List ResultVar) (k : List Kt) (α : AAct) : AAct := restr (usedK k (usedR rs)) (normA α)

def walk (W : Wk) (rs : List ResultVar) (qf : AAct → LH → Prop) : Nat → List Kt → AAct → LH → Prop
  | 0, k, α, l => AW W.X W.N qf k α l
  | _ + 1, [], α, l => qf α l
  | _ + 1, .mark ks q :: _, α, l => q (ks.map (aget α)) l
  | n + 1, .blk _ :: k, α, l => walk W rs qf n k α l
  | n + 1, .code c :: k, α, l =>
    match c with
    | .skip => walk W rs qf n k α l
    | .seq a b => walk W rs qf n (.code a :: .code b :: k) α l
    | .cond v t e =>
      match aeval W.X α v with
      | .bool b => (b = true → walk W rs qf n (.code t :: k) α l) ∧ (b = false → walk W rs qf n (.code e :: k) α l)
      | _ => False
    | .block id c => walk W rs qf n (.code c :: .blk id :: k) α l
    | .exit id => match popTo id k with | some k' => walk W rs qf n k' α l | none => False
    | .ret => qf α l
    | .region rid ops false => sOps W rid ops ops.toList 0 α l (fun α l => walk W rs qf n k α l)
    | .region rid ops true =>
      match regOk ops with
      | true => sD W rid ops ops.toList 0 α l [] (fun α l acc => match pairsB (clOf ops) acc with | true => walk W rs qf n k α l | false => False)
      | false => False
    | c => AW W.X W.N qf (.code c :: k) (cutA rs (.code c :: k) α) l

theorem aget_restr {us : List Nat} {i : Nat} : ∀ {α : AAct}, aget (restr us α) i = aget α i ∨ aget (restr us α) i = .any
  | [] => .inl rfl
  | (k, v) :: r => by
    simp only [restr]
    split
    · simp only [aget]
      split
      · exact .inl rfl
      · exact aget_restr (α := r)
    · rename_i hk
      simp only [aget]
      split
      · rename_i e
        subst e
        right
        have key : ∀ r : AAct, aget (restr us r) i = .any := by
          intro r
          induction r with
          | nil => rfl
          | cons p r ih =>
            obtain ⟨k, v⟩ := p
            simp only [restr]
            split
            · rename_i hk2
              simp only [aget]
              split
              · rename_i e; subst e; rw [hk] at hk2; cases hk2
              · exact ih
            · exact ih
        exact key r
      · exact aget_restr (α := r)
theorem AWp.cut {X : Cx} {N : Nat} {c : Code} {qn qr : Cont} {qe : Nat → Cont} {α : AAct} {H : AHeap} (us : List Nat) (h : AWp X N c qn qr qe (restr us (normA α)) H) : AWp X N c qn qr qe α H := by
  refine AWp.norm ?_
  refine AWp.facts0 fun hF hL hA => ?_
  exact h.view ⟨HView.refl hF hL (Nat.le_refl _), fun i => by
    rcases aget_restr (us := us) (i := i) (α := normA α) with e | e
    · rw [e]; exact VLe.rfl_ _
    · rw [e]; exact VLe.any_ _, fun i => by
    rcases aget_restr (us := us) (i := i) (α := normA α) with e | e
    · rw [e]; exact hA i
    · rw [e]; exact .any⟩
theorem popTo_spec {X : Cx} {N : Nat} {qf : AAct → LH → Prop} {id : Nat} : ∀ {k k' : List Kt}, popTo id k = some k' → ∀ α H, (knS X N qf k').1 α H → (knS X N qf k).2 id α H
  | [], k', h, _, _, _ => by cases h
  | .blk i :: k, k', h, α, H, hq => by
    simp only [popTo] at h
    simp only [knS]
    split at h
    · rename_i hi
      have hi := Nat.eq_of_beq_eq_true hi
      cases h
      rw [if_pos hi.symm]
      exact hq
    · rename_i hi
      have hi := Nat.ne_of_beq_eq_false hi
      rw [if_neg (fun e => hi e.symm)]
      exact popTo_spec h α H hq
  | .code c :: k, k', h, α, H, hq => popTo_spec (k := k) h α H hq
  | .mark ks q :: k, k', h, α, H, hq => popTo_spec (k := k) h α H hq

theorem walk_sound {W : Wk} {rs : List ResultVar} {qf : AAct → LH → Prop} : ∀ (n : Nat) (k : List Kt) (α : AAct) (l : LH), walk W rs qf n k α l → AW W.X W.N qf k α l
  | 0, k, α, l, h => h
  | n + 1, [], α, l, h => ⟨l, rfl, h⟩
  | n + 1, .mark ks q :: k, α, l, h => ⟨l, rfl, h⟩
  | n + 1, .blk id :: k, α, l, h => walk_sound n k α l h
  | n + 1, .code c :: k, α, l, h => by
    have ih := @walk_sound W rs qf n
    simp only [AW, knS]
    cases c with
    | skip =>
      intro ro w0 B μ0 μ w a hro hg he hs ha hl hH hM
      exact Go.wpIn_skip ⟨α, toH l, μ, ih k α l h, he, hs, ha, hl, hH, hM⟩
    | seq a b =>
      have h1 := ih _ α l h
      simp only [AW, knS] at h1
      intro ro w0 B μ0 μ w a hro hg he hs ha hl hH hM
      refine Go.wpIn_seq (Go.wpIn_mono (h1 ro w0 B μ0 μ w a hro hg he hs ha hl hH hM) ?_)
      intro e a' w' hq
      cases e with
      | normal =>
        obtain ⟨α', H', μ', h1, h2, h3, h4, h5, h6, h7⟩ := hq
        exact h1 ro w0 B μ0 μ' w' a' hro hg h2 h3 h4 h5 h6 h7
      | _ => exact hq
    | cond v t e =>
      simp only [walk] at h
      split at h
      · rename_i b hb
        intro ro w0 B μ0 μ w a hro hg he hs ha hl hH hM
        have hcr := aeval_rep ha (hg.mono he) v
        rw [hb] at hcr
        have hcc : a.eval v = .bool b := by cases hx : a.eval v <;> rw [hx] at hcr <;> cases hcr; rfl
        refine Go.wpIn_cond_split hcc (fun q => ?_) (fun q => ?_)
        · exact ih _ α l (h.1 q) ro w0 B μ0 μ w a hro hg he hs ha hl hH hM
        · exact ih _ α l (h.2 q) ro w0 B μ0 μ w a hro hg he hs ha hl hH hM
      · exact h.elim
    | block id c =>
      have h1 := ih _ α l h
      simp only [AW, knS] at h1
      intro ro w0 B μ0 μ w a hro hg he hs ha hl hH hM
      refine Go.wpIn_block (Go.wpIn_mono (h1 ro w0 B μ0 μ w a hro hg he hs ha hl hH hM) ?_)
      intro e a' w' hq
      cases e with
      | exit i =>
        simp only [conc] at hq
        by_cases hi : i = id
        · simp only [Exit.inBlock, hi, if_true]
          simp only [hi, if_true] at hq
          exact hq
        · simp only [Exit.inBlock, hi, if_false]
          simp only [hi, if_false] at hq
          exact hq
      | _ => exact hq
    | exit id =>
      simp only [walk] at h
      split at h
      · rename_i k' hk
        intro ro w0 B μ0 μ w a hro hg he hs ha hl hH hM
        exact Go.wpIn_exit ⟨α, toH l, μ, popTo_spec hk _ _ (ih k' α l h), he, hs, ha, hl, hH, hM⟩
      · exact h.elim
    | ret =>
      intro ro w0 B μ0 μ w a hro hg he hs ha hl hH hM
      exact Go.wpIn_ret ⟨α, toH l, μ, ⟨l, rfl, h⟩, he, hs, ha, hl, hH, hM⟩
    | region rid ops dr =>
      cases dr with
      | false =>
        intro ro w0 B μ0 μ w a hro hg he hs ha hl hH hM
        have h' : sOps W rid ops ops.toList 0 α l (fun α l => walk W rs qf n k α l) := h
        exact Go.wpIn_region_list (sOps_sound (Q := conc W.X w0 B W.N μ0 (knS W.X W.N qf k).1 (onA qf) (knS W.X W.N qf k).2) (fun a' w' hq => Post.mono (X := W.X) hq (by
          rintro α' H' ⟨l', rfl, hq⟩
          exact ih k α' l' hq)) hg ops.toList 0 α l μ w a he hs ha hl hH hM h')
      | true =>
        simp only [walk] at h
        split at h
        · rename_i hst
          refine AWp_of_Tr W.mixed hst fun _ => ?_
          have := sD_sound ops.toList 0 α l [] (by simp) (Nat.zero_le _) h
          obtain ⟨E, acc', e1, e2, e3, ⟨l', e4, e5⟩, e6⟩ := this
          refine ⟨E, acc', e1, e2, e3, ?_, e6⟩
          split at e5
          · rename_i hp
            rw [e4]
            exact ⟨pairsB_ok hp, ih k _ _ e5⟩
          · exact e5.elim
        · exact h.elim
    | loop c => exact AWp.cut _ h
    | rangeFunc f ps a b => exact AWp.cut _ h
    | scope c => exact AWp.cut _ h
    | label c => exact AWp.cut _ h
    | goto c => exact AWp.cut _ h
    | refuse c => exact AWp.cut _ h

/-- Where the loops of code stand, with what follows them. -/
def findL : Code → List Kt → List (List Kt)
  | .seq a b, k => findL a (.code b :: k) ++ findL b k
  | .cond _ t e, k => findL t k ++ findL e k
  | .block id c, k => findL c (.blk id :: k)
  | .loop c, k => [.code (.loop c) :: k]
  | .rangeFunc g ps a b, k => [.code (.rangeFunc g ps a b) :: k]
  | _, _ => []
def bodyK : List Kt → Code
  | .code (.loop c) :: _ => c
  | _ => .skip

theorem zipA_le {vs' : List V} : ∀ {ks : List Nat} {vs : List V} {α : AAct}, AllLe vs (ks.map (aget α)) → ∀ i, VLe (aget (ks.zip vs) i) (aget α i)
  | [], [], α, _, i => VLe.any_ _
  | [], v :: vs, α, h, i => by simp [AllLe] at h
  | k :: ks, [], α, h, i => by simp [AllLe] at h
  | k :: ks, v :: vs, α, h, i => by
    simp only [List.zip_cons_cons, aget]
    simp only [List.map_cons, AllLe] at h
    split
    · rename_i e; subst e; exact h.1
    · exact zipA_le (vs' := vs') h.2 i
theorem zipA_low {n : Nat} : ∀ {ks : List Nat} {vs : List V}, LowL n vs → ∀ i, Low n (aget (ks.zip vs) i)
  | [], vs, h, i => by simp only [List.zip_nil_left, aget]; exact .any
  | k :: ks, [], h, i => by simp only [List.zip_nil_right, aget]; exact .any
  | k :: ks, v :: vs, h, i => by
    simp only [List.zip_cons_cons, aget]
    split
    · exact h v (by simp)
    · exact zipA_low (fun u hu => h u (by simp [hu])) i
/-- A loop over a family of states. -/
theorem AW_loop {X : Cx} {N : Nat} {qf : AAct → LH → Prop} {K : List Kt} {c : Code} {k : List Kt} (hK : K = .code (.loop c) :: k) {σ : Type} (ks : List Nat) (vs : σ → List V) (L : σ → LH) (m : σ → Nat) (I : σ → Prop) (s0 : σ) (h0 : I s0)
    {α : AAct} {l : LH} (hα : AllLe (vs s0) (ks.map (aget α))) (hl : l = L s0) (hlow : ∀ s, I s → LowL l.length (vs s) ∧ LowH l.length (toH (L s)) ∧ (L s).length = l.length)
    (round : ∀ s, I s → AW X N qf (.code c :: .mark ks (fun vs' l' => ∃ s', I s' ∧ m s' < m s ∧ AllLe (vs s') vs' ∧ l'.take l.length = L s') :: k) (ks.zip (vs s)) (L s)) : AW X N qf K α l := by
  subst hK
  subst hl
  simp only [AW, knS]
  refine AWp.facts0 fun hF hL hA => ?_
  refine AWp_loop (fun s => ks.zip (vs s)) (fun s => toH (L s)) m I s0 h0 ⟨HView.refl hF hL (Nat.le_refl _), zipA_le (vs' := []) hα, zipA_low (hlow s0 h0).1⟩ fun s hI => ?_
  have h1 := round s hI
  simp only [AW, knS] at h1
  refine h1.mono ?_ (fun _ _ h => h) (fun _ _ _ h => h)
  rintro α' H' ⟨l', rfl, s', hI', hm, hle, ht⟩
  obtain ⟨k1, k2, k3⟩ := hlow s' hI'
  have hlen : (L s0).length ≤ l'.length := by
    have : (l'.take (L s0).length).length = (L s0).length := by rw [ht]; exact k3
    simp at this; omega
  refine ⟨s', hI', hm, ?_, zipA_le (vs' := []) hle, ?_⟩
  · have e : toH (L s') = (toH l').trunc (L s0).length := by rw [trunc_toH _ _ hlen, ht]
    rw [e]
    exact HView.trunc (Nat.le_refl _) hlen (by rw [← e]; exact k2)
  · intro i
    have := zipA_low (ks := ks) k1 i
    simp only [toH]
    rw [k3]
    exact this

/-- A pure function, from a walk of its body under the empty heap. -/
def qpure (X : Cx) (rs : List ResultVar) (r : V) : AAct → LH → Prop := fun α l =>
  match allOkB X α l rs with
  | true => VLe r (resV (rs.map (aresV X α (toH l))))
  | false => False
theorem pure_walk {X : Cx} (hK : ∀ μ, X.K μ) {f : FuncId} {fn : Func} {c : Code} {args : List V} {r : V} (hf : X.P.funcs[f]? = some fn) (hb : fn.body = some c) (hname : (fn.name == "runtime.NumGoroutine") = false) (hn : Nat.ble args.length fn.ntmps = true)
    (hlow : LowL 0 args) (hr : Low 0 r) (h : AW X fn.ntmps (qpure X fn.results.toList r) [.code c] (entryA 0 args) []) : PureCall X f args r := by
  refine PureCall.of_nil hK hlow hr ?_
  refine ACalls_of_awp (callable_of hf hb hname) hf hb (Nat.le_of_ble_eq_true hn) fun hfr hl hH => ?_
  simp only [AW, knS, toH_nil] at h
  have fin : ∀ α H, onA (qpure X fn.results.toList r) α H → Fin X fn.results.toList AHeap.nil.n (fun v _ => v = r) α H := by
    rintro α H ⟨l, rfl, hq⟩
    unfold qpure at hq
    split at hq
    · rename_i hok
      refine ⟨allOkB_ok hok, r, 0, hq, hr, fun _ b blk hb => ?_, ⟨Nat.le_refl _, Nat.zero_le _⟩, rfl⟩
      simp [AHeap.trunc] at hb
    · exact hq.elim
  exact h.mono fin fin (fun _ _ _ h => h)
end Go.Alt

/- The abstract layer, part 31: words for walks, and rules for what they leave. No condition. -/
namespace Go.Alt
open Go Go.RowKit

/-- A script as a list. -/
def shL : List (Nat × Scr) → Nat → Nat → Scr
  | [], _, _ => .no
  | (i, s) :: l, r', i' => match Nat.beq i i' with | true => s | false => shL l r' i'
def hintL (d : Hint) : List (Nat × Hint) → Tmp → Hint
  | [], _ => d
  | (t, h) :: l, t' => match Nat.beq t t' with | true => h | false => hintL d l t'
noncomputable def cd (f : Func) : Code := f.body.getD .skip
/-- The loop with a number in a function, with what follows it; its round; a loop within a round. -/
noncomputable def kk (f : Func) (j : Nat) : List Kt := (findL (cd f) []).getD j []
@[reducible] noncomputable def kr (K : List Kt) (ks : List Nat) (q : List V → LH → Prop) : List Kt := .code (bodyK K) :: .mark ks q :: K.tail
noncomputable def kq (K : List Kt) (ks : List Nat) (q : List V → LH → Prop) (j : Nat) : List Kt := (findL (bodyK K) (.mark ks q :: K.tail)).getD j []

/-! Lowness. -/
section
variable {n : Nat}
@[simp] theorem low_any : Low n .any ↔ True := ⟨fun _ => trivial, fun _ => .any⟩
@[simp] theorem low_bool (b : Bool) : Low n (.bool b) ↔ True := ⟨fun _ => trivial, fun _ => .bool _⟩
@[simp] theorem low_int (k : IntKind) (i : Int) : Low n (.int k i) ↔ True := ⟨fun _ => trivial, fun _ => .int _ _⟩
@[simp] theorem low_str (s : ByteArray) : Low n (.str s) ↔ True := ⟨fun _ => trivial, fun _ => .str _⟩
@[simp] theorem low_nilFn : Low n .nilFn ↔ True := ⟨fun _ => trivial, fun _ => .nilFn⟩
@[simp] theorem low_nilPtr : Low n .nilPtr ↔ True := ⟨fun _ => trivial, fun _ => .nilPtr⟩
@[simp] theorem low_nilIf : Low n .nilIf ↔ True := ⟨fun _ => trivial, fun _ => .nilIf⟩
@[simp] theorem low_con (v : Value) : Low n (.con v) ↔ True := ⟨fun _ => trivial, fun _ => .con _⟩
@[simp] theorem low_fn (f : Fn) (a c : List V) : Low n (.fn f a c) ↔ LowL n a ∧ LowL n c := ⟨fun h => by cases h with | fn _ _ _ h1 h2 => exact ⟨h1, h2⟩, fun h => .fn _ _ _ h.1 h.2⟩
@[simp] theorem low_ptr (b o : Nat) : Low n (.ptr b o) ↔ b < n := ⟨fun h => by cases h; assumption, fun h => .ptr _ _ h⟩
@[simp] theorem low_msl (b o l s : Nat) : Low n (.msl b o l s) ↔ b < n := ⟨fun h => by cases h; assumption, fun h => .msl _ _ _ _ h⟩
@[simp] theorem low_mp (b : Nat) : Low n (.mp b) ↔ b < n := ⟨fun h => by cases h; assumption, fun h => .mp _ h⟩
@[simp] theorem low_yld (b : Nat) : Low n (.yld b) ↔ b < n := ⟨fun h => by cases h; assumption, fun h => .yld _ h⟩
@[simp] theorem low_pin (cs : List V) : Low n (.pin cs) ↔ LowL n cs := ⟨fun h => by cases h; assumption, fun h => .pin _ h⟩
@[simp] theorem low_agg (cs : List V) : Low n (.agg cs) ↔ LowL n cs := ⟨fun h => by cases h; assumption, fun h => .agg _ h⟩
@[simp] theorem low_tup (cs : List V) : Low n (.tup cs) ↔ LowL n cs := ⟨fun h => by cases h; assumption, fun h => .tup _ h⟩
@[simp] theorem low_slc (o : Own) (es : List (List V)) : Low n (.slc o es) ↔ OwnLow n o ∧ ∀ c ∈ es, LowL n c := ⟨fun h => by cases h; exact ⟨by assumption, by assumption⟩, fun h => .slc _ _ h.1 h.2⟩
@[simp] theorem lowL_nil : LowL n [] ↔ True := ⟨fun _ => trivial, fun _ v hv => by simp at hv⟩
@[simp] theorem lowL_cons (v : V) (l : List V) : LowL n (v :: l) ↔ Low n v ∧ LowL n l := ⟨fun h => ⟨h v (by simp), fun u hu => h u (by simp [hu])⟩, fun h u hu => by
  rcases List.mem_cons.1 hu with rfl | hu
  · exact h.1
  · exact h.2 u hu⟩
@[simp] theorem lowL_append (a b : List V) : LowL n (a ++ b) ↔ LowL n a ∧ LowL n b := ⟨fun h => ⟨fun u hu => h u (by simp [hu]), fun u hu => h u (by simp [hu])⟩, fun h u hu => by
  rcases List.mem_append.1 hu with hu | hu
  · exact h.1 u hu
  · exact h.2 u hu⟩
@[simp] theorem lowL_map {α : Type} (f : α → V) (l : List α) : LowL n (l.map f) ↔ ∀ x ∈ l, Low n (f x) := by simp [LowL]
@[simp] theorem ownLow_shared : OwnLow n .shared ↔ True := Iff.rfl
@[simp] theorem ownLow_full : OwnLow n .full ↔ True := Iff.rfl
@[simp] theorem ownLow_tip (b : Nat) : OwnLow n (.tip b) ↔ b < n := Iff.rfl
@[simp] theorem lowH_nil : LowH n (toH []) ↔ True := ⟨fun _ => trivial, fun _ b blk hb => by simp [toH] at hb⟩
@[simp] theorem lowH_cons (b : ABlock) (l : LH) : LowH n (toH (b :: l)) ↔ LowB n b ∧ LowH n (toH l) := ⟨fun h => ⟨h 0 b rfl, fun i blk hb => h (i + 1) blk hb⟩, fun h i blk hb => by
  cases i with
  | zero => cases hb; exact h.1
  | succ i => exact h.2 i blk hb⟩
@[simp] theorem lowB_box (cs : List V) : LowB n (.box cs) ↔ LowL n cs := Iff.rfl
@[simp] theorem lowB_tip (m : Nat) : LowB n (.tip m) ↔ True := Iff.rfl
@[simp] theorem lowB_map (es : List (V × V)) : LowB n (.map es) ↔ LowM n es := Iff.rfl
@[simp] theorem lowB_lp (s : LoopState) (p : Option Code) : LowB n (.lp s p) ↔ True := Iff.rfl
end
theorem AllLe.of_eq {a b : List V} (h : a = b) : AllLe a b := h ▸ AllLe.refl_ a
@[simp] theorem allLe_nil : AllLe [] [] ↔ True := Iff.rfl
@[simp] theorem allLe_cons (v u : V) (a b : List V) : AllLe (v :: a) (u :: b) ↔ VLe v u ∧ AllLe a b := Iff.rfl
theorem VLe.shared_ (o : Own) (es : List (List V)) : VLe (.slc .shared es) (.slc o es) := VLe.own rfl (.inr (.inl rfl))
theorem AllLe.at_ : ∀ {a b : List V}, AllLe a b → a.length = b.length ∧ ∀ i, VLe (a.getD i .any) (b.getD i .any)
  | [], [], _ => ⟨rfl, fun i => VLe.rfl_ _⟩
  | v :: a, u :: b, h => by
    obtain ⟨h1, h2⟩ := AllLe.at_ h.2
    refine ⟨by simp [h1], fun i => ?_⟩
    cases i with
    | zero => exact h.1
    | succ i => simpa using h2 i
theorem VLe.agg_ {a b : List V} (h : AllLe a b) : VLe (.agg a) (.agg b) := by
  obtain ⟨h1, h2⟩ := h.at_
  intro μ x hx
  cases hx with
  | agg cs cs' hl hr ho => exact .agg _ cs' (by omega) (fun i hi => h2 i μ _ (hr i (by omega))) ho
theorem VLe.tup_ {a b : List V} (h : AllLe a b) : VLe (.tup a) (.tup b) := by
  obtain ⟨h1, h2⟩ := h.at_
  intro μ x hx
  cases hx with
  | tup cs cs' hl hr => exact .tup _ cs' (by omega) (fun i hi => h2 i μ _ (hr i (by omega)))
attribute [simp] VLe.rfl_ VLe.any_ VLe.shared_

/-- A loop, known by its place. -/
theorem AW_loopK {X : Cx} {N : Nat} {qf : AAct → LH → Prop} {K : List Kt} (hK : K = .code (.loop (bodyK K)) :: K.tail) {σ : Type} (ks : List Nat) (vs : σ → List V) (L : σ → LH) (m : σ → Nat) (I : σ → Prop) (s0 : σ) (h0 : I s0)
    {α : AAct} {l : LH} (hα : AllLe (vs s0) (ks.map (aget α))) (hl : l = L s0) (hlow : ∀ s, I s → LowL l.length (vs s) ∧ LowH l.length (toH (L s)) ∧ (L s).length = l.length)
    (round : ∀ s, I s → AW X N qf (kr K ks (fun vs' l' => ∃ s', I s' ∧ m s' < m s ∧ AllLe (vs s') vs' ∧ l'.take l.length = L s')) (ks.zip (vs s)) (L s)) : AW X N qf K α l :=
  AW_loop hK ks vs L m I s0 h0 hα hl hlow round

theorem PureCall.view {X : Cx} {f : FuncId} {args args' : List V} {r : V} (h : PureCall X f args' r) (hv : AllLe args' args) (hl : LowL 0 args') : PureCall X f args r := h.args hv hl
end Go.Alt

/- The abstract layer, part 32: what a row's start holds, read as values of the layer: an argument by its type. No condition. -/
namespace Go.Alt
open Go Go.RowKit

/-- What values of a type look like. 'R' bounds the strings and the rows. -/
def HasTy (P : Program) (R : Nat) : Nat → TypeId → List V → Prop
  | 0, _, _ => False
  | n + 1, t, vs =>
    match P.underlying t with
    | some .bool => ∃ b, vs = [.bool b]
    | some (.int k) => ∃ m, vs = [.int k m] ∧ (Lit.int k m).wf = true
    | some .string => ∃ s, vs = [.str s] ∧ s.size ≤ R
    | some (.pointer e) => vs = [.nilPtr] ∨ (∃ cs, vs = [.pin cs] ∧ HasTy P R n e cs) ∨ ∃ a : Addr, a.spot ≠ none ∧ vs = [.con (.pointer (some a))]
    | some (.slice e) => (∃ es, vs = [.slc .shared es] ∧ es.length * P.bytesOf e ≤ R ∧ ∀ x ∈ es, HasTy P R n e x) ∨ ∃ (a : Addr) (len cap : Nat), a.spot ≠ none ∧ vs = [.con (.slice (some a) len cap)]
    | some (.struct fs) => ∃ vss : List (List V), vs = vss.flatten ∧ vss.length = fs.size ∧ ∀ (i : Nat) f x, fs[i]? = some f → vss[i]? = some x → HasTy P R n f.type x
    | some (.array m e) => ∃ vss : List (List V), vs = vss.flatten ∧ vss.length = m ∧ ∀ x ∈ vss, HasTy P R n e x
    | _ => vs = [.any] ∨ vs = [.nilIf]

section
variable {P : Program} {R n : Nat} {t : TypeId} {vs : List V}
theorem HasTy.bool_ (ht : P.underlying t = some .bool) (h : HasTy P R n t vs) : ∃ b, vs = [.bool b] := by
  cases n with
  | zero => exact h.elim
  | succ n => simpa only [HasTy, ht] using h
theorem HasTy.int_ {k : IntKind} (ht : P.underlying t = some (.int k)) (h : HasTy P R n t vs) : ∃ m, vs = [.int k m] ∧ (Lit.int k m).wf = true := by
  cases n with
  | zero => exact h.elim
  | succ n => simpa only [HasTy, ht] using h
theorem HasTy.str_ (ht : P.underlying t = some .string) (h : HasTy P R n t vs) : ∃ s, vs = [.str s] ∧ s.size ≤ R := by
  cases n with
  | zero => exact h.elim
  | succ n => simpa only [HasTy, ht] using h
theorem HasTy.slice_ {e : TypeId} (ht : P.underlying t = some (.slice e)) (h : HasTy P R n t vs) :
    (∃ es m, vs = [.slc .shared es] ∧ es.length * P.bytesOf e ≤ R ∧ ∀ x ∈ es, HasTy P R m e x) ∨ ∃ (a : Addr) (len cap : Nat), a.spot ≠ none ∧ vs = [.con (.slice (some a) len cap)] := by
  cases n with
  | zero => exact h.elim
  | succ n =>
    simp only [HasTy, ht] at h
    rcases h with ⟨es, h1, h2, h3⟩ | h
    · exact .inl ⟨es, n, h1, h2, h3⟩
    · exact .inr h
theorem HasTy.struct_ {fs : Array Field} (ht : P.underlying t = some (.struct fs)) (h : HasTy P R n t vs) :
    ∃ (vss : List (List V)) (m : Nat), vs = vss.flatten ∧ vss.length = fs.size ∧ ∀ (i : Nat) f x, fs[i]? = some f → vss[i]? = some x → HasTy P R m f.type x := by
  cases n with
  | zero => exact h.elim
  | succ n =>
    simp only [HasTy, ht] at h
    obtain ⟨vss, h1, h2, h3⟩ := h
    exact ⟨vss, n, h1, h2, h3⟩
end

/-- Cells that stand for values, each a single cell. -/
def VR1 (μ : Mem) (vs : List V) (cs : List Value) : Prop := VReps μ vs cs ∧ ∀ x ∈ cs, x.oneCell' = true

theorem exists_list {α : Type} {Q : Nat → α → Prop} : ∀ (n : Nat), (∀ i, i < n → ∃ v, Q i v) → ∃ l : List α, l.length = n ∧ ∀ i v, l[i]? = some v → Q i v
  | 0, _ => ⟨[], rfl, fun i v h => by simp at h⟩
  | n + 1, h => by
    obtain ⟨l, hl, hq⟩ := exists_list n (fun i hi => h i (Nat.lt_succ_of_lt hi))
    obtain ⟨v, hv⟩ := h n (Nat.lt_succ_self n)
    refine ⟨l ++ [v], by simp [hl], fun i x hx => ?_⟩
    rw [List.getElem?_append] at hx
    split at hx
    · exact hq i x hx
    · rename_i hi
      rw [hl] at hx hi
      by_cases e : i = n
      · subst e; simp at hx; subst hx; exact hv
      · have : i - n ≠ 0 := by omega
        rw [List.getElem?_eq_none (by simp; omega)] at hx
        cases hx

theorem flat_rep {μ : Mem} : ∀ (szs : List Nat) (vss : List (List V)) (cs : List Value), vss.length = szs.length → cs.length = szs.sum →
    (∀ j s v, szs[j]? = some s → vss[j]? = some v → VR1 μ v ((cs.drop (szs.take j).sum).take s)) → VR1 μ vss.flatten cs
  | [], vss, cs, hl, hc, h => by
    have : vss = [] := List.eq_nil_of_length_eq_zero (by simpa using hl)
    subst this
    have : cs = [] := List.eq_nil_of_length_eq_zero (by simpa using hc)
    subst this
    exact ⟨.nil_, fun x hx => by cases hx⟩
  | s :: szs, [], cs, hl, hc, h => by simp at hl
  | s :: szs, v :: vss, cs, hl, hc, h => by
    have h0 := h 0 s v rfl rfl
    simp only [List.take_zero, List.sum_nil, List.drop_zero] at h0
    have hr := flat_rep szs vss (cs.drop s) (by simpa using hl) (by simp at hc ⊢; omega) (fun j s' v' hs hv => by
      have := h (j + 1) s' v' (by simpa using hs) (by simpa using hv)
      simp only [List.take_succ_cons, List.sum_cons] at this
      rw [List.drop_drop]
      exact this)
    have e : cs = cs.take s ++ cs.drop s := (List.take_append_drop s cs).symm
    rw [e, List.flatten_cons]
    refine ⟨h0.1.append hr.1, fun x hx => ?_⟩
    rcases List.mem_append.1 hx with hx | hx
    · exact h0.2 x hx
    · exact hr.2 x hx

section
variable {H : Type} {P : Program} {R : Nat}
theorem weightsAll_get {e : TypeId} : ∀ (l : List (DataW H)), (DataW.weightsAll P e l).all (· ≤ R) = true → ∀ (i : Nat) (d : DataW H), l[i]? = some d → (d.weights P e).all (· ≤ R) = true
  | [], _, i, d, h => by simp at h
  | x :: r, hw, i, d, h => by
    simp only [DataW.weightsAll, List.all_append, Bool.and_eq_true] at hw
    cases i with
    | zero => simp at h; subst h; exact hw.1
    | succ i => exact weightsAll_get r hw.2 i d (by simpa using h)
theorem weightsEach_get : ∀ (ts : List TypeId) (l : List (DataW H)), (DataW.weightsEach P ts l).all (· ≤ R) = true → ∀ (i : Nat) (t : TypeId) (d : DataW H), ts[i]? = some t → l[i]? = some d → (d.weights P t).all (· ≤ R) = true
  | [], _, _, i, t, d, h, _ => by simp at h
  | _ :: _, [], _, i, t, d, _, h => by simp at h
  | t0 :: ts, x :: r, hw, i, t, d, h1, h2 => by
    simp only [DataW.weightsEach, List.all_append, Bool.and_eq_true] at hw
    cases i with
    | zero => simp at h1 h2; subst h1; subst h2; exact hw.1
    | succ i => exact weightsEach_get ts r hw.2 i t d (by simpa using h1) (by simpa using h2)
end

theorem rowFine_of {P : Program} {t : TypeId} (hl : laidOutB P = true) (hv : isVar P t = true) :
    (match P.underlying t with
  | some (.struct fs) => fs.toList.all (fun f => isVar P f.type) && P.cellsOf t == (fs.toList.map fun f => P.cellsOf f.type).sum &&
      (List.range fs.toList.length).all fun j => match fs.toList[j]? with | some f => f.offset == ((fs.toList.take j).map fun f => P.cellsOf f.type).sum | none => true
  | some (.array n e) => isVar P e && P.cellsOf t == n * P.cellsOf e
  | some (.pointer e) => isVar P e && P.cellsOf t == 1
  | some (.slice e) => isVar P e && P.cellsOf t == 1
  | _ => P.cellsOf t == 1) = true := by
  simp only [laidOutB, Bool.and_eq_true, List.all_eq_true, List.mem_range] at hl
  have h1 : t < P.types.size := by
    simp only [isVar, Bool.and_eq_true, decide_eq_true_eq] at hv
    exact hv.1
  have h2 := hl.1.1 t h1
  unfold rowFine at h2
  rw [hv] at h2
  simp only [Bool.not_true, Bool.false_or] at h2
  exact h2

theorem cell_spot {w : World} {a : Addr} {x : Value} (h : w.cell? a = some x) : a.spot = none := by
  unfold World.cell? at h
  split at h
  · split at h
    · cases h
    · rename_i h1; simpa using h1
  · cases h
theorem cells_some {w : World} {base : Nat} {a : Addr} {n : Nat} {cs : List Value} (h : w.cells? base a n = some cs) : cs.length = n ∧ ∀ i, i < n → w.cell? (a.add i) = cs[i]? := (World.cells?_some h).2

theorem VR1.one {μ : Mem} {v : V} {x : Value} (h : VRep μ v x) (h1 : x.oneCell' = true) : VR1 μ [v] [x] :=
  ⟨.cons_ h .nil_, fun y hy => by simp at hy; subst hy; exact h1⟩

/-- A row of cells that stays, at an address. -/
theorem row_imm {w : World} {a : Addr} {n : Nat} {cs : List Value} {base : Nat} (hs : a.spot = none) (h : w.cells? base a n = some cs) (h1 : ∀ x ∈ cs, x.oneCell' = true) :
    ∀ j, j < n → (frzMem w).imm a.block (a.off + j) = some (cs.getD j undef) := by
  intro j hj
  obtain ⟨hl, hc⟩ := cells_some h
  have := hc j hj
  have hj' : j < cs.length := by omega
  have e : cs[j]? = some (cs.getD j undef) := by simp [List.getD, hj']
  rw [e] at this
  have ea : a.add j = ⟨a.block, a.off + j, none⟩ := by cases a; simp at hs; subst hs; simp [Addr.add]
  rw [ea] at this
  refine frzMem_imm this (h1 _ ?_)
  simp only [List.getD, List.getElem?_eq_getElem hj', Option.getD_some]
  exact List.getElem_mem _

theorem add_none (c off k : Nat) : Addr.add ⟨c, off, none⟩ k = ⟨c, off + k, none⟩ := by
  unfold Addr.add
  split
  · subst_vars; rfl
  · rfl

theorem rep_of_trod {H : Type} {enc : TypeId × Value → H} {P : Program} {w : World} {base : Nat} {sp : Nat → Bool} {held : Bool} {R : Nat} (hl : laidOutB P = true) : ∀ (n : Nat) (t : TypeId) (cs : List Value) (x : DataW H × List MemPlace),
    isVar P t = true → DataW.trod enc P w base sp held n t cs = some x → (x.1.weights P t).all (· ≤ R) = true → ∃ vs, VR1 (frzMem w) vs cs ∧ HasTy P R n t vs
  | 0, t, cs, x, _, h, _ => by simp [DataW.trod] at h
  | n + 1, t, cs, x, hv, h, hw => by
    have hrow := rowFine_of hl hv
    unfold HasTy
    cases hu : P.underlying t with
    | none => simp only [DataW.trod, hu] at h; cases h
    | some k =>
      rw [hu] at hrow
      cases k with
      | bool =>
        obtain ⟨b, rfl, _⟩ := DataW.trod_bool hu h
        exact ⟨[.bool b], .one (.bool b) rfl, b, rfl⟩
      | int k =>
        obtain ⟨m, rfl, _, hm⟩ := DataW.trod_int hu h
        exact ⟨[.int k m], .one (.int k m) rfl, m, rfl, hm⟩
      | string =>
        obtain ⟨s, rfl, rfl, _⟩ := DataW.trod_string hu h
        refine ⟨[.str s], .one (.str s) rfl, s, rfl, ?_⟩
        simpa [DataW.weights] using hw
      | pointer e =>
        rcases DataW.trod_pointer hu h with ⟨rfl, _⟩ | ⟨a, cs', y, m, hm, rfl, rfl, hc, hy⟩
        · exact ⟨[.nilPtr], .one .nilPtr rfl, .inl rfl⟩
        cases hm
        simp only [Bool.and_eq_true] at hrow
        have hw' : (y.1.weights P e).all (· ≤ R) = true := by simpa [DataW.weights, hu] using hw
        obtain ⟨vs, hvs, hty⟩ := rep_of_trod hl n e cs' y hrow.1 hy hw'
        by_cases hs : a.spot = none
        · refine ⟨[.pin vs], .one ?_ rfl, .inr (.inl ⟨vs, rfl, hty⟩)⟩
          have hln := hvs.1.1
          obtain ⟨hl2, _⟩ := cells_some hc
          have := row_imm hs hc hvs.2
          cases a with
          | mk c off s =>
            simp only at hs
            subst hs
            exact .pin vs c off (fun j => cs'.getD j undef) (fun j hj => this j (by omega)) (fun j hj => hvs.1.2 j hj)
        · exact ⟨[.con (.pointer (some a))], .one (.con _) rfl, .inr (.inr ⟨a, hs, rfl⟩)⟩
      | slice e =>
        rcases DataW.trod_slice hu h with ⟨rfl, _⟩ | ⟨a, len, cap, elems, rest, m, hm, rfl, rfl, _, hle, hcap, hlen, hel, _, _⟩
        · exact ⟨[.slc .shared []], .one (.slcNil _) rfl, .inl ⟨[], rfl, by simp, by simp⟩⟩
        cases hm
        simp only [Bool.and_eq_true] at hrow
        by_cases hs : a.spot = none
        · simp only [DataW.weights, hu, List.all_cons, List.all_append, Bool.and_eq_true, decide_eq_true_eq, List.length_map] at hw
          obtain ⟨hw0, hw1, _⟩ := hw
          have hex : ∀ i, i < len → ∃ v, VR1 (frzMem w) v ((w.cells? base (a.add (i * P.cellsOf e)) (P.cellsOf e)).getD []) ∧ HasTy P R n e v := by
            intro i hi
            have h0 := hel i hi
            have hi' : i < elems.length := by omega
            rw [List.getElem?_eq_getElem hi'] at h0
            cases hc : w.cells? base (a.add (i * P.cellsOf e)) (P.cellsOf e) with
            | none => rw [hc] at h0; cases h0
            | some cs' =>
              rw [hc] at h0
              exact rep_of_trod hl n e cs' elems[i] hrow.1 h0 (weightsAll_get _ hw1 i _ (by simp [hi']))
          obtain ⟨es, hes, hq⟩ := exists_list len hex
          have hq' : ∀ i, i < len → VR1 (frzMem w) (es.getD i []) ((w.cells? base (a.add (i * P.cellsOf e)) (P.cellsOf e)).getD []) ∧ HasTy P R n e (es.getD i []) := fun i hi => hq i _ (by simp [List.getD, hes, hi])
          have hcs : ∀ i, i < len → ∃ cs', w.cells? base (a.add (i * P.cellsOf e)) (P.cellsOf e) = some cs' := by
            intro i hi
            have h0 := hel i hi
            have hi' : i < elems.length := by omega
            rw [List.getElem?_eq_getElem hi'] at h0
            cases hc : w.cells? base (a.add (i * P.cellsOf e)) (P.cellsOf e) with
            | none => rw [hc] at h0; cases h0
            | some cs' => exact ⟨cs', rfl⟩
          refine ⟨[.slc .shared es], .one ?_ rfl, .inl ⟨es, rfl, ?_, fun x hx => ?_⟩⟩
          · cases a with
            | mk c off s =>
              simp only at hs
              subst hs
              refine .slc .shared es c off len cap (P.cellsOf e) (fun i j => ((w.cells? base (Addr.add ⟨c, off, none⟩ (i * P.cellsOf e)) (P.cellsOf e)).getD []).getD j undef) hes hle (fun i hi => ?_) (fun i j hi hj => ?_) (fun i j hi hj => ?_) trivial
              · obtain ⟨cs', hc⟩ := hcs i hi
                have := (hq' i hi).1.1.1
                rw [hc] at this
                have hl2 := (cells_some hc).1
                simp at this
                simp only [List.getD] at this ⊢
                omega
              · obtain ⟨cs', hc⟩ := hcs i hi
                have h1 := (hq' i hi).1.2
                rw [hc] at h1
                have := row_imm (a := Addr.add ⟨c, off, none⟩ (i * P.cellsOf e)) (by rw [add_none]) hc h1 j hj
                rw [add_none] at this hc
                simp only [add_none, hc, Option.getD_some]
                exact this
              · have h1 := (hq' i hi).1.1
                refine h1.2 j ?_
                obtain ⟨cs', hc⟩ := hcs i hi
                have := h1.1
                rw [hc] at this
                have hl2 := (cells_some hc).1
                simp at this
                simp only [List.getD] at this ⊢
                omega
          · have : len * P.bytesOf e ≤ R := by
              refine Nat.le_trans ?_ hw0
              rw [hlen]
              exact Nat.mul_le_mul_right _ (by omega)
            rw [hes]; exact this
          · obtain ⟨i, hi, rfl⟩ := List.mem_iff_getElem.1 hx
            exact (hq i _ (List.getElem?_eq_getElem hi)).2
        · exact ⟨[.con (.slice (some a) len cap)], .one (.con _) rfl, .inr ⟨a, len, cap, hs, rfl⟩⟩
      | struct fs =>
        obtain ⟨xs, m, hm, rfl, hlen, hxs, hfx⟩ := DataW.trod_struct hu h
        cases hm
        simp only [Bool.and_eq_true, List.all_eq_true, List.mem_range, beq_iff_eq] at hrow
        obtain ⟨⟨hvar, hsum⟩, hoff⟩ := hrow
        simp only [DataW.weights, hu] at hw
        have hex : ∀ i, i < fs.size → ∃ v, ∀ f, fs[i]? = some f → VR1 (frzMem w) v ((cs.drop f.offset).take (P.cellsOf f.type)) ∧ HasTy P R n f.type v := by
          intro i hi
          have hf : fs[i]? = some fs[i] := by simp [hi]
          have h0 := hfx i _ hf
          have hi' : i < xs.length := by omega
          rw [List.getElem?_eq_getElem hi'] at h0
          obtain ⟨v, hv1, hv2⟩ := rep_of_trod hl n fs[i].type _ xs[i] (hvar _ (by simp)) h0 (weightsEach_get _ _ hw i _ _ (by simp [hf]) (by simp [hi']))
          refine ⟨v, fun f hf' => ?_⟩
          rw [hf] at hf'
          cases hf'
          exact ⟨hv1, hv2⟩
        obtain ⟨vss, hvl, hq⟩ := exists_list fs.size hex
        refine ⟨vss.flatten, flat_rep (fs.toList.map fun f => P.cellsOf f.type) vss cs (by simp [hvl]) (by rw [hlen, hsum]) (fun j s v hj hvj => ?_), vss, rfl, hvl, fun i f x hf hx => (hq i x hx f hf).2⟩
        simp only [List.getElem?_map, Array.getElem?_toList, Option.map_eq_some_iff] at hj
        obtain ⟨f, hf, rfl⟩ := hj
        have hj' : j < fs.toList.length := by
          have := (Array.getElem?_eq_some_iff.1 hf).1
          simpa using this
        have ho := hoff j hj'
        rw [Array.getElem?_toList, hf] at ho
        simp only [beq_iff_eq] at ho
        have := (hq j v hvj f hf).1
        rw [ho] at this
        rw [← List.map_take]
        exact this
      | array m e =>
        obtain ⟨xs, m', hm, rfl, hlen, hxs, hfx⟩ := DataW.trod_array hu h
        cases hm
        simp only [Bool.and_eq_true, beq_iff_eq] at hrow
        obtain ⟨hvar, hsum⟩ := hrow
        simp only [DataW.weights, hu] at hw
        have hex : ∀ i, i < m → ∃ v, VR1 (frzMem w) v ((cs.drop (i * P.cellsOf e)).take (P.cellsOf e)) ∧ HasTy P R n e v := by
          intro i hi
          have h0 := hfx i hi
          have hi' : i < xs.length := by omega
          rw [List.getElem?_eq_getElem hi'] at h0
          exact rep_of_trod hl n e _ xs[i] hvar h0 (weightsAll_get _ hw i _ (by simp [hi']))
        obtain ⟨vss, hvl, hq⟩ := exists_list m hex
        refine ⟨vss.flatten, flat_rep (List.replicate m (P.cellsOf e)) vss cs (by simp [hvl]) (by rw [hlen, hsum]; simp) (fun j s v hj hvj => ?_), vss, rfl, hvl, fun x hx => ?_⟩
        · rw [List.getElem?_replicate] at hj
          obtain ⟨hj1, rfl⟩ : j < m ∧ P.cellsOf e = s := by split at hj <;> simp_all
          have := (hq j v hvj).1
          rw [List.take_replicate, Nat.min_eq_left (Nat.le_of_lt hj1)]
          simpa using this
        · obtain ⟨i, hi, rfl⟩ := List.mem_iff_getElem.1 hx
          exact (hq i _ (List.getElem?_eq_getElem hi)).2
      | _ =>
        have hone : ∃ y, cs = [y] ∧ y.oneCell' = true := by
          unfold DataW.trod at h
          rw [hu] at h
          split at h <;> first | (cases h; done) | exact ⟨_, rfl, rfl⟩ | simp_all
        obtain ⟨y, rfl, hy⟩ := hone
        exact ⟨[.any], .one (.any y) hy, .inl rfl⟩
end Go.Alt

/- The abstract layer, part 33: a contract over the empty heap, said of a call from a row's start. No condition. -/
namespace Go.Alt
open Go Go.RowKit

theorem calls_of_pure {X : Cx} {f : FuncId} {args : List V} {r : V} (h : PureCall X f args r) {W : World} {vals : List Value} (hg : GRep X (frzMem W)) (hr : VReps (frzMem W) args vals) (hlow : LowL 0 args) :
    Calls X.P f vals.toArray W fun e W' => ∃ x μ', e = .returned x ∧ VRep μ' r x ∧ Below W.heap.size W W' := by
  refine ((h AHeap.nil).2 ⟨W, (frzMem W).imm⟩ W.heap.size (frzMem W) W vals (sim_frz W) hg hr hlow (fun i b hb => by cases hb)).mono ?_
  intro e W' ⟨v, x, μ', H', e1, e2, _, e4, _, e5⟩
  exact ⟨x, μ', e1, by rw [← e5.1]; exact e2, e4.below⟩

theorem cell_slice_spot {P : Program} {w : World} {r : Reach} {base : Nat} {u : TypeId} {a : Addr} {l c : Nat} (h : Cell.okWide P w r base u (.slice (some a) l c)) : a.spot = none := by
  unfold Cell.okWide at h
  split at h
  all_goals first
    | (rename_i h1 h2; cases h2; done)
    | skip
  unfold Cell.ok at h
  split at h
  all_goals first
    | (rename_i h1 h2; cases h2; done)
    | exact h.elim
    | skip
  rename_i h1 h2
  cases h2
  exact h.2.2.2.1
theorem okWide_agg_spot {P : Program} {w : World} {r : Reach} {base : Nat} {t : TypeId} {cs : Array Value} (h : Value.okWide P w r base t (.agg cs)) {a : Addr} {l c : Nat} (hm : Value.slice (some a) l c ∈ cs.toList) : a.spot = none := by
  have key : Row.okWide P w r base t cs → a.spot = none := by
    intro ⟨ts, _, _, hc⟩
    obtain ⟨i, hi, he⟩ := List.mem_iff_getElem.1 hm
    have : cs[i]? = some (.slice (some a) l c) := by
      rw [← he]
      simp at hi
      simp [hi]
    obtain ⟨u, _, hu⟩ := hc i _ this
    exact cell_slice_spot hu
  unfold Value.okWide at h
  split at h
  · obtain ⟨cs', e, _, hr⟩ := h; cases e; exact key hr
  · obtain ⟨cs', e, _, hr⟩ := h; cases e; exact key hr
  · exfalso
    unfold Cell.okWide at h
    split at h <;> first
      | (rename_i h2; cases h2; done)
      | (rename_i h1 h2; cases h2; done)
      | (unfold Cell.ok at h; split at h <;> first | exact h | (rename_i h2; cases h2; done) | (rename_i h1 h2; cases h2; done))
      | skip
end Go.Alt
