/- The abstract layer over the model's runs, group C: lemmas for the walks. No condition. -/
import Derived.Test.YtdcdjjdklhlnlaaDoorAltB
import Derived.IntWalk

/- The abstract layer, part 14: a region whose order is drawn. No condition. -/
namespace Go.Alt
open Go Go.RowKit

/-- A call that looks at no more of the heap than this, and leaves it so. -/
def RCall (X : Cx) (f : FuncId) (args : List V) (H : AHeap) (rd : List (Nat × Nat)) (r : V) (effs : List Eff) : Prop :=
  ∀ H', SameAt H H' rd → ACalls X f args H' (fun v H'' => v = r ∧ H'' = apps effs H')
theorem PureCall.rcall {X : Cx} {f : FuncId} {args : List V} {r : V} (h : PureCall X f args r) (H : AHeap) : RCall X f args H [] r [] := fun H' _ => h H'

def Eff.blk : Eff → Nat
  | .new id _ => id
  | .set id _ _ => id
  | .tip id _ => id
  | .mset id _ => id
/-- What a call may leave. -/
def Eff.tame (H : AHeap) : Eff → Prop
  | .new _ _ => False
  | .set _ _ _ => True
  | .tip id _ => (H.get id).isSome = true
  | .mset id _ => (H.get id).isSome = true
def tames (H : AHeap) : List Eff → Prop
  | [] => True
  | e :: l => Eff.tame H e ∧ tames H l
theorem tames.mem {H : AHeap} : ∀ {l : List Eff}, tames H l → ∀ e ∈ l, Eff.tame H e
  | [], _, e, he => by simp at he
  | x :: l, h, e, he => by
    rcases List.mem_cons.1 he with rfl | he
    · exact h.1
    · exact h.2.mem e he

/-- What is written anew is there. -/
def Eff.there (H : AHeap) : Eff → Prop
  | .tip id _ => (H.get id).isSome = true
  | .mset id _ => (H.get id).isSome = true
  | _ => True
theorem tip_some {X : Cx} {hint : Hint} {nid : Nat} {ρ : Operand → V} {H : AHeap} (op : Op) {e : Eff} (h : e ∈ (arec X hint nid ρ H op).effs) : e.there H := by
  cases op <;> simp only [arec, yields, must, fail, List.not_mem_nil] at h
  case pick => split at h <;> simp at h
  case alloc => simp at h; subst h; trivial
  case box => simp at h; subst h; trivial
  case build => split at h <;> simp at h
  case buildSlice =>
    split at h
    · simp at h
    · split at h
      · simp at h
      · split at h <;> simp at h
        subst h; trivial
  case load => split at h <;> try split at h
               all_goals simp at h
  case store =>
    split at h
    · split at h
      · have key : ∀ (vs : List V) (b off : Nat), e ∈ setsE b off vs → e.there H := by
          intro vs
          induction vs with
          | nil => intro b off h; simp [setsE] at h
          | cons v vs ih =>
            intro b off h
            simp only [setsE, List.mem_cons] at h
            rcases h with h | h
            · subst h; trivial
            · exact ih _ _ h
        exact key _ _ _ h
      · simp at h
    · simp at h
  case nilCheck => split at h <;> simp at h
  case binOp =>
    unfold binR at h
    split at h
    · split at h
      · unfold binI at h
        split at h <;> simp [yields, must, fail] at h
      · simp [fail] at h
    · unfold binS at h
      split at h <;> simp [yields, must, fail] at h
    · split at h
      · unfold eqR at h
        split at h <;> try split at h
        all_goals simp [yields, fail] at h
      · unfold eqR at h
        split at h <;> try split at h
        all_goals simp [yields, fail] at h
      · simp [fail] at h
  case unOp => split at h <;> simp at h
  case convert =>
    unfold convR at h
    split at h
    · simp [yields] at h
    · simp [yields] at h
    · split at h
      · split at h <;> simp [fail] at h
      · simp [fail] at h
    · simp [fail] at h
  case makeSlice => split at h <;> simp at h; subst h; trivial
  case makeMap t r => cases r <;> simp at h; subst h; trivial
  case lookup =>
    unfold lookupR at h
    repeat' split at h
    all_goals simp [fail] at h
  case mapUpdate =>
    unfold mupR at h
    split at h
    · split at h
      · rename_i hb
        split at h <;> simp [fail] at h <;> subst h <;> simp [Eff.there, hb]
      · simp [fail] at h
    · simp [fail] at h
  case insert =>
    unfold mupR at h
    split at h
    · split at h
      · rename_i hb
        split at h <;> simp [fail] at h <;> subst h <;> simp [Eff.there, hb]
      · simp [fail] at h
    · simp [fail] at h
  case slice =>
    unfold sliceR at h
    repeat' split at h
    all_goals simp [must, fail] at h
  case fieldAddr => split at h <;> simp at h
  case field => split at h <;> simp at h
  case indexAddr =>
    split at h <;> try split at h
    all_goals simp at h
  case index =>
    split at h <;> try split at h
    all_goals simp at h
  case extract => split at h <;> simp at h
  case call =>
    split at h
    · unfold builtinR at h
      split at h
      · simp [must] at h
      · simp [must] at h
      · simp [must] at h
      · split at h <;> simp [yields, fail] at h
      · split at h
        · unfold appendR at h
          split at h
          · split at h
            · split at h <;> simp at h <;> subst h <;> trivial
            · split at h
              · simp only [List.mem_singleton] at h
                subst h
                rename_i hb
                simp [Eff.there, hb]
              · simp [fail] at h
            · simp [fail] at h
          · simp [fail] at h
        · simp [fail] at h
      · split at h <;> simp [yields, fail] at h
      · split at h <;> simp [yields, fail] at h
      · simp [fail] at h
    · simp at h

def Eff.inB (n : Nat) : Eff → Prop
  | .tip id _ => id < n
  | .mset id _ => id < n
  | _ => True
theorem Eff.inB.mono {n m : Nat} (h : n ≤ m) {e : Eff} (k : e.inB n) : e.inB m := by
  cases e <;> simp_all [Eff.inB] <;> omega
theorem apps_fresh : ∀ (l : List Eff) (H : AHeap), H.Fresh → (∀ e ∈ l, e.inB H.n) → (apps l H).Fresh
  | [], H, h, _ => h
  | .new id b :: l, H, h, hl => by
    refine apps_fresh l (H.new id b) (fun i hi => ?_) (fun e he => (hl e (by simp [he])).mono ?_)
    · simp only [AHeap.new] at hi ⊢
      rw [if_neg (by omega)]
      exact h i (by omega)
    · simp only [AHeap.new]; omega
  | .set id off v :: l, H, h, hl => by
    refine apps_fresh l (H.set id off v) (fun i hi => ?_) (fun e he => hl e (by simp [he]))
    simp only [AHeap.set] at hi ⊢
    split
    · rw [h i hi]; rfl
    · exact h i hi
  | .tip id m :: l, H, h, hl => by
    refine apps_fresh l (H.tip id m) (fun i hi => ?_) (fun e he => hl e (by simp [he]))
    simp only [AHeap.tip] at hi ⊢
    have : id < H.n := hl (.tip id m) (by simp)
    rw [if_neg (by omega)]
    exact h i hi
  | .mset id es :: l, H, h, hl => by
    refine apps_fresh l (H.mset id es) (fun i hi => ?_) (fun e he => hl e (by simp [he]))
    simp only [AHeap.mset] at hi ⊢
    have : id < H.n := hl (.mset id es) (by simp)
    rw [if_neg (by omega)]
    exact h i hi
theorem AHeap.Fresh.lt {H : AHeap} (h : H.Fresh) {i : Nat} (hi : (H.get i).isSome = true) : i < H.n := by
  rcases Nat.lt_or_ge i H.n with hlt | hge
  · exact hlt
  · rw [h i hge] at hi; cases hi

theorem Eff.there.inB {H : AHeap} (h : H.Fresh) {e : Eff} (k : e.there H) : e.inB H.n := by
  cases e <;> simp_all [Eff.there, Eff.inB]
  · exact h.lt k
  · exact h.lt k
theorem Eff.tame.there {H : AHeap} {e : Eff} (k : e.tame H) : e.there H := by
  cases e <;> simp_all [Eff.there, Eff.tame]

def dstep (X : Cx) (hint : Hint) (nid : Nat) (o : Oper) (ρ : Operand → V) (H : AHeap) (r : Rec) : Prop :=
  match o.op with
  | .call c =>
    match c.callee with
    | .value f =>
      match ρ f with
      | .fn (.func g) first caps => RCall X g (first ++ c.args.toList.map ρ ++ caps) H r.reads r.val r.effs ∧ tames H r.effs
      | _ => False
    | _ => r = arec X hint nid ρ H o.op ∧ r.ok
  | op => r = arec X hint nid ρ H op ∧ r.ok

/-- An operation of a drawn region, and what is done with its record. -/
def dstepK (X : Cx) (Γ : Tab) (hint : Hint) (nid : Nat) (g : Bool) (o : Oper) (ρ : Operand → V) (H : AHeap) (K : Rec → Prop) : Prop :=
  match o.op with
  | .call c =>
    match c.callee with
    | .value f =>
      match ρ f with
      | .fn (.func h) first caps =>
        match Γ h (first ++ c.args.toList.map ρ ++ caps) with
        | some v => K ⟨True, v, [], []⟩
        | none => ∃ r : Rec, (g = true → RCall X h (first ++ c.args.toList.map ρ ++ caps) H r.reads r.val r.effs ∧ tames H r.effs) ∧ K r
      | _ => False
    | _ => (g = true → (arec X hint nid ρ H o.op).ok) ∧ K (arec X hint nid ρ H o.op)
  | op => (g = true → (arec X hint nid ρ H op).ok) ∧ K (arec X hint nid ρ H op)

theorem dstepK_spec {X : Cx} {Γ : Tab} (hΓ : TabOk X Γ) {hint : Hint} {nid : Nat} {g : Bool} {o : Oper} {ρ : Operand → V} {H : AHeap} {K : Rec → Prop} (h : dstepK X Γ hint nid g o ρ H K) : ∃ r, (g = true → dstep X hint nid o ρ H r) ∧ K r := by
  unfold dstepK at h
  unfold dstep
  generalize o.op = op at h ⊢
  cases op with
  | call c =>
    obtain ⟨callee, args, ts⟩ := c
    cases callee with
    | value f =>
      simp only at h ⊢
      split at h
      · split at h
        · rename_i v hv
          exact ⟨⟨True, v, [], []⟩, fun _ => ⟨(hΓ _ _ _ hv).rcall H, trivial⟩, h⟩
        · exact h
      · exact h.elim
    | _ => exact ⟨_, fun q => ⟨rfl, h.1 q⟩, h.2⟩
  | _ => exact ⟨_, fun q => ⟨rfl, h.1 q⟩, h.2⟩

end Go.Alt

/- The abstract layer, part 15: a region whose order is drawn: all its orders do alike. No condition. -/
namespace Go.Alt
open Go Go.RowKit

/-- What is known of an operation of a drawn region: the state before it in the text's order, and what it does. -/
structure DEnt where
  α : AAct
  H : AHeap
  v : V
  effs : List Eff
  rd : List (Nat × Nat)
def DEnt.W (E : DEnt) : List Nat := E.effs.map Eff.blk
def DEnt.T (E : DEnt) : List Nat := E.rd.map (·.1) ++ E.W

/-- In every state that is the same where it looks, the operation does this. -/
def DDoes (X : Cx) (N : Nat) (ops : Array Oper) (o : Oper) (E : DEnt) : Prop :=
  dstOk N o.dst ∧ ∀ (α : AAct) (H : AHeap), (∀ t ∈ o.looksAt ops, aget α t = aget E.α t) → (∀ b ∈ E.T, H.get b = E.H.get b) →
    ∀ (ro : Option Nat) (w0 : Base) (B : Nat) (μ : Mem) (w : World) (a : Act) (Q : Exit → Act → World → Prop) (K : Act → World → Prop), GRep X μ → Sim w0 B μ H w → ARep μ N α a → ALow H.n α → LowH H.n H →
      (∀ x μ' w', VRep μ' E.v x → Ext μ μ' → Sim w0 B μ' (apps E.effs H) w' → (Low (apps E.effs H).n E.v ∧ LowH (apps E.effs H).n (apps E.effs H) ∧ H.n ≤ (apps E.effs H).n) → K (a.put o.dst x) w') →
      if Region.wanted o (yielded ops a.tmps) then o.wpIn (fen ro) 0 X.P a w K Q else K (a.put o.dst undef) w

theorem arec_keeps' {X : Cx} {hint : Hint} {nid : Nat} {ρ : Operand → V} {H : AHeap} (hρ : ∀ x, Low H.n (ρ x)) (hH : LowH H.n H) (op : Op) (hok : (arec X hint nid ρ H op).ok) :
    Low (apps (arec X hint nid ρ H op).effs H).n (arec X hint nid ρ H op).val ∧ LowH (apps (arec X hint nid ρ H op).effs H).n (apps (arec X hint nid ρ H op).effs H) ∧ H.n ≤ (apps (arec X hint nid ρ H op).effs H).n := by
  have hle := apps_n_le (arec X hint nid ρ H op).effs H
  have h := arec_low (X := X) (hint := hint) (nid := nid) (n := (apps (arec X hint nid ρ H op).effs H).n) (fun x => (hρ x).mono hle) (hH.mono hle) op hok
    (newIn_lt _ H nid fun id b hb => new_id op hb)
  exact ⟨h.1, low_apps _ _ (hH.mono hle) h.2, hle⟩

theorem newIn_mem : ∀ {l : List Eff}, newIn l = true → ∃ id b, Eff.new id b ∈ l
  | .new id b :: l, _ => ⟨id, b, by simp⟩
  | .set _ _ _ :: l, h => let ⟨id, b, hb⟩ := newIn_mem (l := l) h; ⟨id, b, by simp [hb]⟩
  | .mset _ _ :: l, h => let ⟨id, b, hb⟩ := newIn_mem (l := l) h; ⟨id, b, by simp [hb]⟩
  | .tip _ _ :: l, h => let ⟨id, b, hb⟩ := newIn_mem (l := l) h; ⟨id, b, by simp [hb]⟩

section
variable {X : Cx} {w0 : Base} {B N : Nat}

theorem dstep_sound {ro : Option Nat} {hint : Hint} {nid : Nat} {o : Oper} {ρ ρ' : Operand → V} {H0 H : AHeap} {r : Rec} {μ : Mem} {w : World} {a : Act} (hρe : ∀ x ∈ o.op.operands, ρ' x = ρ x) (hsame : SameAt H0 H r.reads)
    (hfresh : newIn r.effs = true → H.get nid = none) (hd : dstep X hint nid o ρ H0 r) (hs : Sim w0 B μ H w) (hg : GRep X μ) (hρ : ∀ x, VRep μ (ρ' x) (a.eval x)) (hl : ∀ x, Low H.n (ρ' x)) (hH : LowH H.n H)
    {next : Act → World → Prop} {Q : Exit → Act → World → Prop}
    (hn : ∀ x μ' w', VRep μ' r.val x → Ext μ μ' → Sim w0 B μ' (apps r.effs H) w' → (Low (apps r.effs H).n r.val ∧ LowH (apps r.effs H).n (apps r.effs H) ∧ H.n ≤ (apps r.effs H).n) → next (a.put o.dst x) w') : o.wpIn (fen ro) 0 X.P a w next Q := by
  have gen : r = arec X hint nid ρ H0 o.op ∧ r.ok → o.wpIn (fen ro) 0 X.P a w next Q := by
    rintro ⟨hr, hok⟩
    have e1 : arec X hint nid ρ' H0 o.op = r := by rw [hr]; exact arec_congr hρe
    have e2 : arec X hint nid ρ' H o.op = r := by rw [← e1]; exact arec_heap o.op (by rw [e1]; exact hok) (by rw [e1]; exact hsame)
    obtain ⟨nid', hid, e3⟩ : ∃ nid', H.get nid' = none ∧ arec X hint nid' ρ' H o.op = r := by
      cases hnw : newIn r.effs with
      | true => exact ⟨nid, hfresh hnw, e2⟩
      | false => exact ⟨H.n, hs.fresh _ (Nat.le_refl _), by rw [← e2]; exact arec_nid o.op (by rw [e2]; exact hnw)⟩
    have hk' := arec_keeps' (X := X) (hint := hint) (nid := nid') hl hH o.op (by rw [e3]; exact hok)
    obtain ⟨x, n, w', μ', k1, k2, k3, k4, k5⟩ := arec_sound (X := X) (ρc := a.eval) hs hρ hint hid (by rw [e3]; exact hok)
    rw [e3] at hk' k3 k5
    refine oper_fen ro (fun c hc => by rw [hr, hc] at hok; exact hok.elim) ?_
    rw [k1]
    rcases k2 with rfl | ⟨rfl, rfl⟩
    · exact hn _ _ _ k3 k4 k5 hk'
    · exact hn _ _ _ k3 k4 k5 hk'
  unfold dstep at hd
  split at hd
  · rename_i c hop
    split at hd
    · rename_i f hcal
      split at hd
      · rename_i g first caps hf
        have hf' : ρ' f = V.fn (.func g) first caps := by rw [← hf]; exact hρe f (by simp [hop, Op.operands, Call.operands, hcal])
        have hargs' : c.args.toList.map ρ' = c.args.toList.map ρ := map_congr_ops fun x hx => hρe x (by
          simp only [hop, Op.operands, Call.operands, hcal]
          simp at hx ⊢
          exact .inr hx)
        have hfv := hρ f
        rw [hf'] at hfv
        cases hfc : a.eval f <;> rw [hfc] at hfv <;> cases hfv
        rename_i fs cs h1 h2 h3 h4
        have hargs : VReps μ (first ++ c.args.toList.map ρ ++ caps) (fs ++ c.args.toList.map a.eval ++ cs) := by
          rw [← hargs']
          refine (VReps.append ⟨?_, ?_⟩ (maps_rep hρ c.args.toList)).append ⟨?_, ?_⟩ <;> assumption
        have hfl := hl f
        rw [hf'] at hfl
        have hlow : LowL H.n (first ++ c.args.toList.map ρ ++ caps) := by
          rw [← hargs']
          cases hfl with
          | fn _ _ _ l1 l2 => exact LowL.append (LowL.append l1 (low_mapL hl _)) l2
        obtain ⟨hcall, hcalls⟩ := hd.1 H hsame
        have hc := hcalls w0 B μ w _ hs hg hargs hlow hH
        have hrun : (execOp a.eval o).run X.P w = (callFunc g (fs ++ c.args.toList.map a.eval ++ cs).toArray).run X.P w := by
          simp only [execOp, hop, resolve, hcal, Deferred.ofValue, hfc, Sem.run_bind, Sem.run_pure, Result.andThen_ok, invoke]
          congr 2
          apply Array.ext'
          simp
        refine oper_fen ro (fun c' hc' => by rw [hop] at hc'; cases hc') ?_
        rw [hrun, hcall]
        refine ⟨(fun h => by rw [fen_depth] at h; cases h), callsIn_fen ro _ (hc.mono fun e w' ⟨v, x, μ', H', e1, e2, e3, e4, e6, e5, e7⟩ => ?_)⟩
        subst e1; subst e5; subst e7
        exact hn _ _ _ e2 e3 e4 e6
      · exact hd.elim
    · exact gen hd
  · exact gen hd

/-- An operation without a guard. -/
theorem ddoes_plain {hint : Hint} {ops : Array Oper} {o : Oper} {α0 : AAct} {H0 : AHeap} {r : Rec} (hf : H0.Fresh) (hdst : dstOk N o.dst) (hg0 : o.guard = none) (hd : dstep X hint H0.n o (aeval X α0) H0 r) :
    DDoes X N ops o ⟨α0, H0, r.val, r.effs, r.reads⟩ := by
  refine ⟨hdst, fun α H hα hT ro w0 B μ w a Q K hg hs ha hl hH hK => ?_⟩
  rw [if_pos (by simp [Region.wanted, hg0])]
  refine dstep_sound (fun x hx => ?_) (fun k hk => hT k.1 (by simp only [DEnt.T, List.mem_append, List.mem_map]; exact .inl ⟨k, hk, rfl⟩)) (fun hnw => ?_) hd hs hg (aeval_rep ha hg) (aeval_low hl hg) hH hK
  · cases x with
    | tmp t => exact hα t (by simp only [Oper.looksAt, List.mem_append, List.mem_filterMap]; exact .inl ⟨.tmp t, by simpa using hx, rfl⟩)
    | _ => rfl
  · obtain ⟨id, b, hb⟩ := newIn_mem hnw
    have hid : id = H0.n := by
      revert hb
      unfold dstep at hd
      split at hd
      · split at hd
        · split at hd
          · intro hb; exact absurd (hd.2.mem _ hb) (by simp [Eff.tame])
          · exact hd.elim
        · rw [hd.1]; exact fun hb => new_id _ hb
      · rw [hd.1]; exact fun hb => new_id _ hb
    subst hid
    rw [hT H0.n (by simp only [DEnt.T, DEnt.W, List.mem_append, List.mem_map]; exact .inr ⟨_, hb, rfl⟩)]
    exact hf _ (Nat.le_refl _)

/-- An operation under a guard. -/
theorem ddoes_guardB {hint : Hint} {ops : Array Oper} {o : Oper} {α0 : AAct} {H0 : AHeap} {r : Rec} {j : Nat} {want g : Bool} (hf : H0.Fresh) (hdst : dstOk N o.dst) (hg0 : o.guard = some (j, want))
    (hgv : guardV want (gtmp ops j α0) = some g) (hd : g = true → dstep X hint H0.n o (fun x => (aeval X α0 x).coreB) H0 r) (v : V) (hv : g = true → v = r.val) (effs : List Eff) (he : g = true → effs = r.effs) (he' : g = false → effs = [])
    (rd : List (Nat × Nat)) (hrd : g = true → rd = r.reads) :
    DDoes X N ops o ⟨α0, H0, .opt g v, effs, rd⟩ := by
  refine ⟨hdst, fun α H hα hT ro w0 B μ w a Q K hg hs ha hl hH hK => ?_⟩
  have hop : ∀ x ∈ o.op.operands, aeval X α x = aeval X α0 x := fun x hx => by
    cases x with
    | tmp t => exact hα t (by simp only [Oper.looksAt, List.mem_append, List.mem_filterMap]; exact .inl ⟨.tmp t, by simpa using hx, rfl⟩)
    | _ => rfl
  have hgt : gtmp ops j α = gtmp ops j α0 := by
    unfold gtmp
    cases hq : (ops[j]?).bind (·.dst) with
    | none => rfl
    | some d => exact hα d (by simp only [Oper.looksAt, hg0, hq, List.mem_append]; exact .inr (by simp))
  have hw := guard_spec ha hg0 (by rw [hgt]; exact hgv)
  rw [hw]
  cases g with
  | false =>
    simp only [Bool.false_eq_true, if_false]
    have := he' rfl
    subst this
    exact hK undef μ w (.opt _ _ _ (fun q => by cases q) (fun _ => rfl)) (Ext.refl μ) hs ⟨.opt _ _ (fun q => by cases q), hH, Nat.le_refl _⟩
  | true =>
    have hv := hv rfl; have he := he rfl; have hd := hd rfl; have hrd := hrd rfl
    subst hv; subst he; subst hrd
    simp only [if_true]
    refine dstep_sound (ρ' := fun x => (aeval X α x).coreB) (fun x hx => ?_) (fun k hk => hT k.1 (by simp only [DEnt.T, List.mem_append, List.mem_map]; exact .inl ⟨k, hk, rfl⟩)) (fun hnw => ?_) hd hs hg (fun x => vrep_coreB (aeval_rep ha hg x)) (fun x => low_coreB (aeval_low hl hg x)) hH
      (fun x μ' w' k1 k2 k3 k4 => hK x μ' w' (.opt _ _ _ (fun _ => k1) (fun q => by cases q)) k2 k3 ⟨.opt _ _ fun _ => k4.1, k4.2⟩)
    · simp only [hop x hx]
    · obtain ⟨id, b, hb⟩ := newIn_mem hnw
      have hid : id = H0.n := by
        revert hb
        unfold dstep at hd
        split at hd
        · split at hd
          · split at hd
            · intro hb; exact absurd (hd.2.mem _ hb) (by simp [Eff.tame])
            · exact hd.elim
          · rw [hd.1]; exact fun hb => new_id _ hb
        · rw [hd.1]; exact fun hb => new_id _ hb
      subst hid
      rw [hT H0.n (by simp only [DEnt.T, DEnt.W, List.mem_append, List.mem_map]; exact .inr ⟨_, hb, rfl⟩)]
      exact hf _ (Nat.le_refl _)
theorem dstep_congr {hint : Hint} {nid : Nat} {o : Oper} {ρ ρ' : Operand → V} {H : AHeap} {r : Rec} (h : ∀ x ∈ o.op.operands, ρ x = ρ' x) (hd : dstep X hint nid o ρ H r) : dstep X hint nid o ρ' H r := by
  have e := arec_congr (X := X) (hint := hint) (nid := nid) (H := H) h
  unfold dstep at hd ⊢
  generalize o.op = op at h e hd ⊢
  cases op with
  | call c =>
    simp only at hd ⊢
    obtain ⟨callee, args, ts⟩ := c
    cases callee with
    | value f =>
      simp only at hd ⊢
      have hf : ρ f = ρ' f := h f (by simp [Op.operands, Call.operands])
      have ha : args.toList.map ρ = args.toList.map ρ' := map_congr_ops fun x hx => h x (by simp [Op.operands, Call.operands] at hx ⊢; exact .inr hx)
      rw [← hf, ← ha]; exact hd
    | _ => simp only [← e]; exact hd
  | _ => simp only [← e]; exact hd
theorem ddoes_guard {hint : Hint} {ops : Array Oper} {o : Oper} {α0 : AAct} {H0 : AHeap} {r : Rec} {j : Nat} {want g : Bool} (hf : H0.Fresh) (hdst : dstOk N o.dst) (hg0 : o.guard = some (j, want))
    (hgv : guardV want (gtmp ops j α0) = some g) (hgd : gdAll g (aeval X α0) o.op.operands.toList) (hd : g = true → dstep X hint H0.n o (V.coreOf (aeval X α0)) H0 r) (v : V) (hv : g = true → v = r.val) (effs : List Eff) (he : g = true → effs = r.effs) (he' : g = false → effs = [])
    (rd : List (Nat × Nat)) (hrd : g = true → rd = r.reads) :
    DDoes X N ops o ⟨α0, H0, .opt g v, effs, rd⟩ :=
  ddoes_guardB hf hdst hg0 hgv (fun q => dstep_congr (fun x hx => (coreB_core (gdAll_mem hgd q x (by simpa using hx))).symm) (hd q)) v hv effs he he' rd hrd
end
end Go.Alt

/- The abstract layer, part 16: a region whose order is drawn, walked in the text's order. No condition. -/
namespace Go.Alt
open Go Go.RowKit

abbrev Foot := Nat × List Nat × List Nat
def addFoot (i : Nat) (r : Rec) (acc : List Foot) : List Foot :=
  match r.reads, r.effs with
  | [], [] => acc
  | rd, es => acc ++ [(i, es.map Eff.blk, rd.map (·.1) ++ es.map Eff.blk)]

def effK (l : List Eff) (A : Prop) (B : List Eff → Prop) : Prop := match l with | [] => A | e :: es => B (e :: es)
theorem effK_congr {l l' : List Eff} (h : l = l') (A : Prop) (B : List Eff → Prop) : effK l A B = effK l' A B := by rw [h]
theorem effK_nil (A : Prop) (B : List Eff → Prop) : effK [] A B = A := rfl
theorem effK_cons (e : Eff) (es : List Eff) (A : Prop) (B : List Eff → Prop) : effK (e :: es) A B = B (e :: es) := rfl
def dOps (X : Cx) (Γ : Tab) (hint : Tmp → Hint) (N : Nat) (ops : Array Oper) : List Oper → Nat → AAct → AHeap → List Foot → (AAct → AHeap → List Foot → Prop) → Prop
  | [], _, α, H, acc, K => K α H acc
  | o :: rest, i, α, H, acc, K =>
    dstOk N o.dst ∧
    match o.guard with
    | none => dstepK X Γ (hint (o.dst.getD 0)) H.n true o (aeval X α) H (fun r => dOps X Γ hint N ops rest (i + 1) (aput o.dst r.val α) (apps r.effs H) (addFoot i r acc) K)
    | some (j, want) =>
      guardK (guardV want (gtmp ops j α)) fun g => gdAll g (aeval X α) o.op.operands.toList ∧
        dstepK X Γ (hint (o.dst.getD 0)) H.n g o (V.coreOf (aeval X α)) H (fun r =>
          effK r.effs (dOps X Γ hint N ops rest (i + 1) (aput o.dst (.opt g r.val) α) H (addFoot i r acc) K)
            fun es => (g = true → dOps X Γ hint N ops rest (i + 1) (aput o.dst (.opt g r.val) α) (apps es H) (addFoot i r acc) K) ∧
              (g = false → dOps X Γ hint N ops rest (i + 1) (aput o.dst (.opt g .any) α) H acc K))
theorem dOps_congr {X : Cx} {Γ : Tab} {hint : Tmp → Hint} {N : Nat} {ops : Array Oper} {l : List Oper} {i : Nat} {α α' : AAct} {H H' : AHeap} {acc acc' : List Foot} (hα : α = α') (hH : H = H') (hacc : acc = acc') (K : AAct → AHeap → List Foot → Prop) :
    dOps X Γ hint N ops l i α H acc K = dOps X Γ hint N ops l i α' H' acc' K := by rw [hα, hH, hacc]

/-- The order that every run keeps, as sets of numbers. -/
def clGo : List Oper → List Nat → List Nat
  | [], acc => acc
  | o :: r, acc => clGo r (acc ++ [o.after.toList.foldl (fun m e => if Region.binds .any e then m ||| (1 <<< e.on) ||| acc.getD e.on 0 else m) 0])
def clOf (ops : Array Oper) : List Nat := clGo ops.toList []
def maskOf : List Nat → Nat
  | [] => 0
  | t :: l => (1 <<< t) ||| maskOf l
def edgeFold (cl : List Nat) (l : List Edge) (m : Nat) : Nat := l.foldl (fun m e => if Region.binds .any e then m ||| (1 <<< e.on) ||| cl.getD e.on 0 else m) m
def edgesOk (cl : List Nat) (i : Nat) (o : Oper) : Bool :=
  (o.after.toList.all fun e => !Region.binds .any e || decide (e.on < i)) && cl.getD i 0 == edgeFold cl o.after.toList 0
def tmpsApart (ops : Array Oper) (x y : Oper) : Bool :=
  (match x.dst with | some d => !(maskOf (y.looksAt ops)).testBit d && y.dst != some d | none => true) &&
  (match y.dst with | some d => !(maskOf (x.looksAt ops)).testBit d | none => true)
def regOk (ops : Array Oper) : Bool :=
  let cl := clOf ops
  (List.range ops.size).all fun i => match ops[i]? with
    | none => true
    | some o => edgesOk cl i o && (List.range i).all fun j => (cl.getD i 0).testBit j || match ops[j]? with | some p => tmpsApart ops p o | none => true

def disj (a b : List Nat) : Prop := ∀ x ∈ a, ∀ y ∈ b, x ≠ y
def footOk (cl : List Nat) (p : Foot) : List Foot → Prop
  | [] => True
  | q :: l => ((cl.getD q.1 0).testBit p.1 = false → disj p.2.1 q.2.2 ∧ disj q.2.1 p.2.2) ∧ footOk cl p l
def pairsOk (cl : List Nat) : List Foot → Prop
  | [] => True
  | p :: l => footOk cl p l ∧ pairsOk cl l

theorem footOk.mem {cl : List Nat} {p : Foot} : ∀ {l : List Foot}, footOk cl p l → ∀ q ∈ l, (cl.getD q.1 0).testBit p.1 = false → disj p.2.1 q.2.2 ∧ disj q.2.1 p.2.2
  | [], _, q, hq => by simp at hq
  | x :: l, h, q, hq => by
    rcases List.mem_cons.1 hq with rfl | hq
    · exact h.1
    · exact h.2.mem q hq

/-- The entries of a list of footprints, one of them behind the other. -/
theorem pairsOk.spec {cl : List Nat} : ∀ {l : List Foot}, pairsOk cl l → l.Pairwise (fun p q => p.1 < q.1) → ∀ p ∈ l, ∀ q ∈ l, p.1 < q.1 → (cl.getD q.1 0).testBit p.1 = false → disj p.2.1 q.2.2 ∧ disj q.2.1 p.2.2
  | [], _, _, p, hp => by simp at hp
  | x :: l, h, hs, p, hp => by
    intro q hq hlt hb
    rw [List.pairwise_cons] at hs
    rcases List.mem_cons.1 hp with h1 | h1
    · rcases List.mem_cons.1 hq with h2 | h2
      · rw [h1, h2] at hlt; omega
      · rw [h1] at hb ⊢; exact h.1.mem q h2 hb
    · rcases List.mem_cons.1 hq with h2 | h2
      · have := hs.1 p h1; rw [h2] at hlt; omega
      · exact h.2.spec hs.2 p h1 q h2 hlt hb

structure TraceAt (X : Cx) (N : Nat) (ops : Array Oper) (E : Nat → DEnt) (i : Nat) (o : Oper) : Prop where
  does : DDoes X N ops o (E i)
  nextA : (E (i + 1)).α = aput o.dst (E i).v (E i).α
  nextH : (E (i + 1)).H = apps (E i).effs (E i).H

theorem addFoot_spec (i : Nat) (r : Rec) (acc : List Foot) : (addFoot i r acc = acc ∧ r.reads = [] ∧ r.effs = []) ∨ addFoot i r acc = acc ++ [(i, r.effs.map Eff.blk, r.reads.map (·.1) ++ r.effs.map Eff.blk)] := by
  unfold addFoot
  split
  · exact .inl ⟨rfl, by assumption, by assumption⟩
  · exact .inr rfl

section
variable {X : Cx} {N : Nat} {ops : Array Oper}

theorem dOps_trace {Γ : Tab} (hΓ : TabOk X Γ) {hint : Tmp → Hint} {K : AAct → AHeap → List Foot → Prop} : ∀ (l : List Oper) (k : Nat) (α : AAct) (H : AHeap) (acc : List Foot), ops.toList.drop k = l → k ≤ ops.size → H.Fresh → dOps X Γ hint N ops l k α H acc K →
    ∃ (E : Nat → DEnt) (acc' : List Foot), (E k).α = α ∧ (E k).H = H ∧ (∀ i o, k ≤ i → ops[i]? = some o → TraceAt X N ops E i o) ∧ K (E ops.size).α (E ops.size).H (acc ++ acc') ∧
      (∀ i, k ≤ i → i < ops.size → ((E i).T = [] ∧ (E i).W = []) ∨ (i, (E i).W, (E i).T) ∈ acc') ∧ acc'.Pairwise (fun p q => p.1 < q.1) ∧ ∀ p ∈ acc', k ≤ p.1
  | [], k, α, H, acc, hl, hk, hf, h => by
    have hk' : k = ops.size := by
      have : ops.toList.length - k = 0 := by rw [← List.length_drop, hl]; rfl
      simp at this; omega
    subst hk'
    refine ⟨fun _ => ⟨α, H, .any, [], []⟩, [], rfl, rfl, fun i o hi ho => ?_, by rw [List.append_nil]; exact h, fun i h1 h2 => by omega, .nil, by simp⟩
    have := (Array.getElem?_eq_some_iff.1 ho).1
    omega
  | o :: rest, k, α, H, acc, hl, hk, hf, h => by
    have hlt : k < ops.size := by
      rcases Nat.lt_or_ge k ops.size with h1 | h1
      · exact h1
      · rw [List.drop_eq_nil_of_le (by simpa using h1)] at hl; cases hl
    have ho : ops[k]? = some o := by
      have : (ops.toList.drop k)[0]? = some o := by rw [hl]; rfl
      simpa using this
    have hl' : ops.toList.drop (k + 1) = rest := by
      have : (ops.toList.drop k).drop 1 = rest := by rw [hl]; rfl
      rwa [List.drop_drop] at this
    obtain ⟨hdst, h⟩ := h
    -- one step, whatever its entry
    have step : ∀ (v : V) (effs : List Eff) (rd : List (Nat × Nat)) (f : List Foot), DDoes X N ops o ⟨α, H, v, effs, rd⟩ → (apps effs H).Fresh →
        ((f = [] ∧ rd = [] ∧ effs = []) ∨ (f = [(k, effs.map Eff.blk, rd.map (·.1) ++ effs.map Eff.blk)])) → dOps X Γ hint N ops rest (k + 1) (aput o.dst v α) (apps effs H) (acc ++ f) K →
        ∃ (E : Nat → DEnt) (acc' : List Foot), (E k).α = α ∧ (E k).H = H ∧ (∀ i o, k ≤ i → ops[i]? = some o → TraceAt X N ops E i o) ∧ K (E ops.size).α (E ops.size).H (acc ++ acc') ∧
      (∀ i, k ≤ i → i < ops.size → ((E i).T = [] ∧ (E i).W = []) ∨ (i, (E i).W, (E i).T) ∈ acc') ∧ acc'.Pairwise (fun p q => p.1 < q.1) ∧ ∀ p ∈ acc', k ≤ p.1 := by
      intro v effs rd f hdd hf' hff hrest
      obtain ⟨E, acc', e1, e2, e3, e4, e5, e6, e7⟩ := dOps_trace hΓ rest (k + 1) _ _ _ hl' (by omega) hf' hrest
      refine ⟨fun i => if i = k then ⟨α, H, v, effs, rd⟩ else E i, f ++ acc', by simp, by simp, ?_, ?_, ?_, ?_, ?_⟩
      · intro i o' hi ho'
        by_cases hik : i = k
        · subst hik
          rw [ho] at ho'
          injection ho' with ho'
          subst ho'
          exact ⟨by simpa using hdd, by simp [e1], by simp [e2]⟩
        · have := e3 i o' (by omega) ho'
          exact ⟨by simpa [hik] using this.1, by simpa [hik, show ¬ i + 1 = k by omega] using this.2, by simpa [hik, show ¬ i + 1 = k by omega] using this.3⟩
      · simp only [show ¬ ops.size = k by omega, if_false]
        simpa using e4
      · intro i h1 h2
        by_cases hik : i = k
        · subst hik
          simp only [if_true]
          rcases hff with ⟨rfl, rfl, rfl⟩ | rfl
          · exact .inl ⟨rfl, rfl⟩
          · exact .inr (by simp [DEnt.W, DEnt.T])
        · simp only [hik, if_false]
          rcases e5 i (by omega) h2 with h3 | h3
          · exact .inl h3
          · exact .inr (by simp [h3])
      · rw [List.pairwise_append]
        refine ⟨?_, e6, fun p hp q hq => ?_⟩
        · rcases hff with ⟨rfl, _⟩ | rfl
          · exact .nil
          · exact List.pairwise_singleton _ _
        · have := e7 q hq
          rcases hff with ⟨rfl, _⟩ | rfl
          · simp at hp
          · simp at hp; subst hp; simp only; omega
      · intro p hp
        rcases List.mem_append.1 hp with hp | hp
        · rcases hff with ⟨rfl, _⟩ | rfl
          · simp at hp
          · simp at hp; subst hp; exact Nat.le_refl _
        · have := e7 p hp; omega
    have foot : ∀ r : Rec, ∃ f, addFoot k r acc = acc ++ f ∧ ((f = [] ∧ r.reads = [] ∧ r.effs = []) ∨ (f = [(k, r.effs.map Eff.blk, r.reads.map (·.1) ++ r.effs.map Eff.blk)])) := fun r => by
      rcases addFoot_spec k r acc with ⟨h1, h2, h3⟩ | h1
      · exact ⟨[], by simp [h1], .inl ⟨rfl, h2, h3⟩⟩
      · exact ⟨_, h1, .inr rfl⟩
    have fresh : ∀ (ρ : Operand → V) (r : Rec), dstep X (hint (o.dst.getD 0)) H.n o ρ H r → (apps r.effs H).Fresh := fun ρ r hd => by
      refine apps_fresh _ _ hf fun e hm => ?_
      unfold dstep at hd
      split at hd
      · split at hd
        · split at hd
          · exact (hd.2.mem _ hm).there.inB hf
          · exact hd.elim
        · rw [hd.1] at hm; exact (tip_some _ hm).inB hf
      · rw [hd.1] at hm; exact (tip_some _ hm).inB hf
    split at h
    · rename_i hgd
      obtain ⟨r, hd, hk⟩ := dstepK_spec hΓ h
      obtain ⟨f, hf1, hf2⟩ := foot r
      rw [hf1] at hk
      exact step r.val r.effs r.reads f (ddoes_plain hf hdst hgd (hd rfl)) (fresh _ r (hd rfl)) hf2 hk
    · rename_i j want hgd
      unfold guardK at h
      split at h
      · rename_i g hgv
        obtain ⟨hga, h⟩ := h
        obtain ⟨r, hd, hk⟩ := dstepK_spec hΓ h
        obtain ⟨f, hf1, hf2⟩ := foot r
        unfold effK at hk
        split at hk
        · rename_i hes
          rw [hf1] at hk
          refine step (.opt g r.val) [] r.reads f (ddoes_guard hf hdst hgd hgv hga hd _ (fun _ => rfl) [] (fun _ => hes.symm) (fun _ => rfl) _ (fun _ => rfl)) hf ?_ hk
          rw [hes] at hf2
          rcases hf2 with ⟨h1, h2, _⟩ | h1
          · exact .inl ⟨h1, h2, rfl⟩
          · exact .inr h1
        · rename_i e es hes
          cases g with
          | true =>
            have hk := hk.1 rfl
            rw [hf1, ← hes] at hk
            refine step (.opt true r.val) r.effs r.reads f (ddoes_guard hf hdst hgd hgv hga hd _ (fun _ => rfl) _ (fun _ => rfl) (fun q => by cases q) _ (fun _ => rfl)) (fresh _ r (hd rfl)) hf2 hk
          | false =>
            have hk := hk.2 rfl
            exact step (.opt false .any) [] [] [] (ddoes_guard (r := r) hf hdst hgd hgv hga hd _ (fun q => by cases q) [] (fun q => by cases q) (fun _ => rfl) [] (fun q => by cases q)) hf (.inl ⟨rfl, rfl, rfl⟩) (by rw [List.append_nil]; exact hk)
      · exact h.elim
end
end Go.Alt

/- The abstract layer, part 17: every order of a drawn region ends where the text's order ends. No condition. -/
namespace Go.Alt
open Go Go.RowKit

theorem edgeFold_bit (cl : List Nat) (j : Nat) : ∀ (l : List Edge) (m : Nat), (edgeFold cl l m).testBit j = true → m.testBit j = true ∨ ∃ e ∈ l, Region.binds .any e = true ∧ (j = e.on ∨ (cl.getD e.on 0).testBit j = true)
  | [], m, h => .inl h
  | e :: l, m, h => by
    simp only [edgeFold, List.foldl_cons] at h
    rcases edgeFold_bit cl j l _ h with h1 | ⟨e', he', h2⟩
    · split at h1
      · rename_i hb
        simp only [Nat.testBit_or, Bool.or_eq_true, Nat.one_shiftLeft, Nat.testBit_two_pow, decide_eq_true_eq] at h1
        rcases h1 with (h1 | h1) | h1
        · exact .inl h1
        · exact .inr ⟨e, by simp, hb, .inl h1.symm⟩
        · exact .inr ⟨e, by simp, hb, .inr h1⟩
      · exact .inl h1
    · exact .inr ⟨e', by simp [he'], h2⟩
theorem maskOf_bit : ∀ {l : List Nat} {t : Nat}, t ∈ l → (maskOf l).testBit t = true
  | x :: l, t, h => by
    simp only [maskOf, Nat.testBit_or, Bool.or_eq_true, Nat.one_shiftLeft, Nat.testBit_two_pow, decide_eq_true_eq]
    rcases List.mem_cons.1 h with rfl | h
    · exact .inl rfl
    · exact .inr (maskOf_bit h)
theorem tmpsApart_spec {ops : Array Oper} {x y : Oper} (h : tmpsApart ops x y = true) : (∀ d, x.dst = some d → d ∉ y.looksAt ops ∧ y.dst ≠ some d) ∧ ∀ d, y.dst = some d → d ∉ x.looksAt ops := by
  simp only [tmpsApart, Bool.and_eq_true] at h
  constructor
  · intro d hd
    have h1 := h.1
    rw [hd] at h1
    simp only [Bool.and_eq_true, Bool.not_eq_true', bne_iff_ne, ne_eq] at h1
    refine ⟨fun hm => ?_, h1.2⟩
    rw [maskOf_bit hm] at h1
    cases h1.1
  · intro d hd hm
    have h1 := h.2
    rw [hd] at h1
    simp only [Bool.not_eq_true'] at h1
    rw [maskOf_bit hm] at h1
    cases h1

/-- What the static table gives. -/
structure Static (ops : Array Oper) (cl : List Nat) : Prop where
  edge : ∀ i o e, ops[i]? = some o → e ∈ o.after.toList → Region.binds .any e = true → e.on < i
  bit : ∀ i o j, ops[i]? = some o → (cl.getD i 0).testBit j = true → ∃ e ∈ o.after.toList, Region.binds .any e = true ∧ (j = e.on ∨ (cl.getD e.on 0).testBit j = true)
  tmps : ∀ j i p o, j < i → ops[j]? = some p → ops[i]? = some o → (cl.getD i 0).testBit j = false → tmpsApart ops p o = true

theorem regOk_spec {ops : Array Oper} (h : regOk ops = true) : Static ops (clOf ops) := by
  simp only [regOk, List.all_eq_true, List.mem_range] at h
  have h1 : ∀ i o, ops[i]? = some o → edgesOk (clOf ops) i o = true ∧ ∀ j, j < i → (((clOf ops).getD i 0).testBit j || match ops[j]? with | some p => tmpsApart ops p o | none => true) = true := fun i o ho => by
    have := h i (Array.getElem?_eq_some_iff.1 ho).1
    rw [ho] at this
    simp only [Bool.and_eq_true, List.all_eq_true, List.mem_range] at this
    exact this
  refine ⟨fun i o e ho he hb => ?_, fun i o j ho hj => ?_, fun j i p o hji hp ho hb => ?_⟩
  · have := (h1 i o ho).1
    simp only [edgesOk, Bool.and_eq_true, List.all_eq_true] at this
    have := this.1 e he
    simpa [hb] using this
  · have := (h1 i o ho).1
    simp only [edgesOk, Bool.and_eq_true, beq_iff_eq] at this
    rw [this.2] at hj
    rcases edgeFold_bit _ _ _ _ hj with h2 | h2
    · simp at h2
    · exact h2
  · have := (h1 i o ho).2 j hji
    rw [hp, hb] at this
    simpa using this

theorem apps_get_notin {b : Nat} : ∀ (l : List Eff) (H : AHeap), b ∉ l.map Eff.blk → (apps l H).get b = H.get b
  | [], H, _ => rfl
  | .new id blk :: l, H, h => by
    simp only [List.map_cons, Eff.blk, List.mem_cons, not_or] at h
    simp only [apps, Eff.app]
    rw [apps_get_notin l _ h.2]
    simp [AHeap.new, h.1]
  | .set id off v :: l, H, h => by
    simp only [List.map_cons, Eff.blk, List.mem_cons, not_or] at h
    simp only [apps, Eff.app]
    rw [apps_get_notin l _ h.2]
    simp [AHeap.set, h.1]
  | .tip id m :: l, H, h => by
    simp only [List.map_cons, Eff.blk, List.mem_cons, not_or] at h
    simp only [apps, Eff.app]
    rw [apps_get_notin l _ h.2]
    simp [AHeap.tip, h.1]
  | .mset id m :: l, H, h => by
    simp only [List.map_cons, Eff.blk, List.mem_cons, not_or] at h
    simp only [apps, Eff.app]
    rw [apps_get_notin l _ h.2]
    simp [AHeap.mset, h.1]
theorem apps_get_congr {b : Nat} : ∀ (l : List Eff) (H H' : AHeap), H.get b = H'.get b → (apps l H).get b = (apps l H').get b
  | [], H, H', h => h
  | .new id blk :: l, H, H', h => by
    simp only [apps, Eff.app]
    exact apps_get_congr l _ _ (by simp [AHeap.new, h])
  | .set id off v :: l, H, H', h => by
    simp only [apps, Eff.app]
    exact apps_get_congr l _ _ (by simp [AHeap.set, h])
  | .tip id m :: l, H, H', h => by
    simp only [apps, Eff.app]
    exact apps_get_congr l _ _ (by simp [AHeap.tip, h])
  | .mset id m :: l, H, H', h => by
    simp only [apps, Eff.app]
    exact apps_get_congr l _ _ (by simp [AHeap.mset, h])
def topE : List Eff → Nat
  | [] => 0
  | .new id _ :: l => max (id + 1) (topE l)
  | _ :: l => topE l
theorem apps_n : ∀ (l : List Eff) (H : AHeap), (apps l H).n = max H.n (topE l)
  | [], H => by simp [apps, topE]
  | .new id blk :: l, H => by simp only [apps, Eff.app, topE]; rw [apps_n l]; simp only [AHeap.new]; omega
  | .set id off v :: l, H => by simp only [apps, Eff.app, topE]; rw [apps_n l]; rfl
  | .tip id m :: l, H => by simp only [apps, Eff.app, topE]; rw [apps_n l]; rfl
  | .mset id m :: l, H => by simp only [apps, Eff.app, topE]; rw [apps_n l]; rfl
theorem AHeap.ext_ {H H' : AHeap} (h1 : ∀ b, H.get b = H'.get b) (h2 : H.n = H'.n) : H = H' := by
  cases H; cases H'
  simp only at h1 h2
  subst h2
  congr
  funext b
  exact h1 b

def dstAt (ops : Array Oper) (k : Nat) : Option Tmp := (ops[k]?).bind (·.dst)
def ovA (ops : Array Oper) (E : Nat → DEnt) (L : Nat → Bool) : Nat → AAct
  | 0 => (E 0).α
  | k + 1 => if L k then aput (dstAt ops k) (E k).v (ovA ops E L k) else ovA ops E L k
def ovH (E : Nat → DEnt) (L : Nat → Bool) : Nat → AHeap
  | 0 => (E 0).H
  | k + 1 => if L k then apps (E k).effs (ovH E L k) else ovH E L k
def addL (L : Nat → Bool) (i : Nat) : Nat → Bool := fun j => if j = i then true else L j

theorem addL_ne {L : Nat → Bool} {i k : Nat} (h : ¬ k = i) : addL L i k = L k := by simp [addL, h]
theorem addL_self {L : Nat → Bool} {i : Nat} : addL L i i = true := by simp [addL]
theorem aget_aput {dst : Option Tmp} {v : V} {α : AAct} {t : Nat} : aget (aput dst v α) t = if dst = some t then v else aget α t := by
  cases dst with
  | none => rfl
  | some d =>
    simp only [aput, aget, Option.some.injEq]
    by_cases h : t = d
    · simp [h]
    · simp [h, Ne.symm h]

structure Chain (X : Cx) (N : Nat) (ops : Array Oper) (cl : List Nat) (E : Nat → DEnt) : Prop where
  st : Static ops cl
  tr : ∀ i o, ops[i]? = some o → TraceAt X N ops E i o
  apart : ∀ j i, j < i → i < ops.size → (cl.getD i 0).testBit j = false → disj (E j).W (E i).T ∧ disj (E i).W (E j).T

def Closed (ops : Array Oper) (L : Nat → Bool) : Prop := ∀ i o, ops[i]? = some o → L i = true → ∀ e ∈ o.after.toList, Region.binds .any e = true → L e.on = true

section
variable {X : Cx} {N : Nat} {ops : Array Oper} {cl : List Nat} {E : Nat → DEnt} {L : Nat → Bool}

theorem closed_bits (C : Chain X N ops cl E) (hc : Closed ops L) : ∀ (i : Nat), i < ops.size → L i = true → ∀ j, (cl.getD i 0).testBit j = true → L j = true := by
  intro i
  induction i using Nat.strongRecOn with
  | _ i ih =>
    intro hi hL j hj
    have ho : ops[i]? = some ops[i] := Array.getElem?_eq_getElem hi
    obtain ⟨e, he, hb, h⟩ := C.st.bit i _ j ho hj
    have hlt := C.st.edge i _ e ho he hb
    have hLe := hc i _ ho hL e he hb
    rcases h with rfl | h
    · exact hLe
    · exact ih e.on hlt (by omega) hLe j h
theorem ready_bits (C : Chain X N ops cl E) (hc : Closed ops L) {i : Nat} {o : Oper} (ho : ops[i]? = some o) (hr : ∀ e ∈ o.after.toList, Region.binds .any e = true → L e.on = true) : ∀ j, (cl.getD i 0).testBit j = true → L j = true := by
  intro j hj
  have hi := (Array.getElem?_eq_some_iff.1 ho).1
  obtain ⟨e, he, hb, h⟩ := C.st.bit i _ j ho hj
  have hlt := C.st.edge i _ e ho he hb
  rcases h with rfl | h
  · exact hr e he hb
  · exact closed_bits C hc e.on (by omega) (hr e he hb) j h

theorem text_A (C : Chain X N ops cl E) : ∀ k, k ≤ ops.size → ovA ops E (fun _ => true) k = (E k).α
  | 0, _ => rfl
  | k + 1, hk => by
    have ho : ops[k]? = some ops[k] := Array.getElem?_eq_getElem (by omega)
    simp only [ovA, if_true]
    rw [text_A C k (by omega), (C.tr k _ ho).nextA]
    simp [dstAt, ho]
theorem text_H (C : Chain X N ops cl E) : ∀ k, k ≤ ops.size → ovH E (fun _ => true) k = (E k).H
  | 0, _ => rfl
  | k + 1, hk => by
    have ho : ops[k]? = some ops[k] := Array.getElem?_eq_getElem (by omega)
    simp only [ovH, if_true]
    rw [text_H C k (by omega), (C.tr k _ ho).nextH]

/-- One operation and another, before it or behind it, of which one is listed and one is not. -/
theorem apart_before (C : Chain X N ops cl E) {i k : Nat} {o : Oper} (ho : ops[i]? = some o) (hk : k < i) (hL : L k = false) (hb : ∀ j, (cl.getD i 0).testBit j = true → L j = true) :
    (∀ t ∈ o.looksAt ops, dstAt ops k ≠ some t) ∧ ∀ b ∈ (E i).T, b ∉ (E k).W := by
  have hi := (Array.getElem?_eq_some_iff.1 ho).1
  have hkk : ops[k]? = some ops[k] := Array.getElem?_eq_getElem (by omega)
  have hbit : (cl.getD i 0).testBit k = false := by
    cases h : (cl.getD i 0).testBit k with
    | false => rfl
    | true => rw [hb k h] at hL; cases hL
  constructor
  · intro t ht hd
    have := (tmpsApart_spec (C.st.tmps k i _ _ hk hkk ho hbit)).1 t (by simpa [dstAt, hkk] using hd)
    exact this.1 ht
  · intro b hb1 hb2
    exact (C.apart k i hk hi hbit).1 b hb2 b hb1 rfl
theorem apart_behind (C : Chain X N ops cl E) (hc : Closed ops L) {i k : Nat} {o : Oper} (ho : ops[i]? = some o) (hik : i < k) (hk : k < ops.size) (hLi : L i = false) (hL : L k = true) :
    (∀ t ∈ o.looksAt ops, dstAt ops k ≠ some t) ∧ (∀ t, o.dst = some t → dstAt ops k ≠ some t) ∧ (∀ b ∈ (E i).T, b ∉ (E k).W) := by
  have hkk : ops[k]? = some ops[k] := Array.getElem?_eq_getElem hk
  have hbit : (cl.getD k 0).testBit i = false := by
    cases h : (cl.getD k 0).testBit i with
    | false => rfl
    | true => rw [closed_bits C hc k hk hL i h] at hLi; cases hLi
  have hap := tmpsApart_spec (C.st.tmps i k _ _ hik ho hkk hbit)
  refine ⟨fun t ht hd => hap.2 t (by simpa [dstAt, hkk] using hd) ht, fun t ht hd => (hap.1 t ht).2 (by simpa [dstAt, hkk] using hd), fun b hb1 hb2 => ?_⟩
  exact (C.apart i k hik hk hbit).2 b hb2 b hb1 rfl

theorem look_same (C : Chain X N ops cl E) (hc : Closed ops L) {i : Nat} {o : Oper} (ho : ops[i]? = some o) (hLi : L i = false) (hb : ∀ j, (cl.getD i 0).testBit j = true → L j = true) {t : Nat} (ht : t ∈ o.looksAt ops) :
    aget (ovA ops E L ops.size) t = aget (E i).α t := by
  have hi := (Array.getElem?_eq_some_iff.1 ho).1
  have h1 : ∀ k, k ≤ i → aget (ovA ops E L k) t = aget (ovA ops E (fun _ => true) k) t := by
    intro k
    induction k with
    | zero => exact fun _ => rfl
    | succ k ih =>
      intro hk
      simp only [ovA, if_true]
      have := ih (by omega)
      cases hL : L k with
      | true => simp only [if_true, aget_aput, this]
      | false =>
        simp only [Bool.false_eq_true, if_false, aget_aput]
        rw [if_neg ((apart_before C ho (by omega) hL hb).1 t ht), this]
  have h2 : ∀ k, i ≤ k → k ≤ ops.size → aget (ovA ops E L k) t = aget (ovA ops E L i) t := by
    intro k hk
    induction k with
    | zero => intro _; have : i = 0 := by omega
              subst this; rfl
    | succ k ih =>
      intro hn
      by_cases hki : i = k + 1
      · rw [hki]
      · have := ih (by omega) (by omega)
        simp only [ovA]
        cases hL : L k with
        | false => simpa using this
        | true =>
          have hne : i ≠ k := by rintro rfl; rw [hLi] at hL; cases hL
          simp only [if_true, aget_aput]
          rw [if_neg ((apart_behind C hc ho (by omega) (by omega) hLi hL).1 t ht), this]
  rw [h2 _ (by omega) (Nat.le_refl _), h1 _ (Nat.le_refl _), text_A C i (by omega)]

theorem block_same (C : Chain X N ops cl E) (hc : Closed ops L) {i : Nat} {o : Oper} (ho : ops[i]? = some o) (hLi : L i = false) (hb : ∀ j, (cl.getD i 0).testBit j = true → L j = true) {b : Nat} (ht : b ∈ (E i).T) :
    (ovH E L ops.size).get b = (E i).H.get b ∧ (ovH E L i).get b = (E i).H.get b := by
  have hi := (Array.getElem?_eq_some_iff.1 ho).1
  have h1 : ∀ k, k ≤ i → (ovH E L k).get b = (ovH E (fun _ => true) k).get b := by
    intro k
    induction k with
    | zero => exact fun _ => rfl
    | succ k ih =>
      intro hk
      simp only [ovH, if_true]
      have := ih (by omega)
      cases hL : L k with
      | true => simp only [if_true]; exact apps_get_congr _ _ _ this
      | false =>
        simp only [Bool.false_eq_true, if_false]
        rw [apps_get_notin _ _ ((apart_before C ho (by omega) hL hb).2 b ht), this]
  have h2 : ∀ k, i ≤ k → k ≤ ops.size → (ovH E L k).get b = (ovH E L i).get b := by
    intro k hk
    induction k with
    | zero => intro _; have : i = 0 := by omega
              subst this; rfl
    | succ k ih =>
      intro hn
      by_cases hki : i = k + 1
      · rw [hki]
      · have := ih (by omega) (by omega)
        simp only [ovH]
        cases hL : L k with
        | false => simpa using this
        | true =>
          have hne : i ≠ k := by rintro rfl; rw [hLi] at hL; cases hL
          simp only [if_true]
          rw [apps_get_notin _ _ ((apart_behind C hc ho (by omega) (by omega) hLi hL).2.2 b ht), this]
  exact ⟨by rw [h2 _ (by omega) (Nat.le_refl _), h1 _ (Nat.le_refl _), text_H C i (by omega)], by rw [h1 _ (Nat.le_refl _), text_H C i (by omega)]⟩

theorem add_A (C : Chain X N ops cl E) (hc : Closed ops L) {i : Nat} {o : Oper} (ho : ops[i]? = some o) (hLi : L i = false) (t : Nat) :
    aget (ovA ops E (addL L i) ops.size) t = aget (aput o.dst (E i).v (ovA ops E L ops.size)) t := by
  have hi := (Array.getElem?_eq_some_iff.1 ho).1
  have hd : dstAt ops i = o.dst := by simp [dstAt, ho]
  rw [aget_aput]
  have h0 : ∀ k, k ≤ i → ovA ops E (addL L i) k = ovA ops E L k := by
    intro k
    induction k with
    | zero => exact fun _ => rfl
    | succ k ih =>
      intro hk
      simp only [ovA, addL_ne (show ¬ k = i by omega)]
      rw [ih (by omega)]
  split
  · rename_i hdt
    have h1 : ∀ k, i < k → k ≤ ops.size → aget (ovA ops E (addL L i) k) t = (E i).v := by
      intro k
      induction k with
      | zero => intro h; omega
      | succ k ih =>
        intro hk hn
        simp only [ovA]
        by_cases hki : k = i
        · subst hki
          simp [addL_self, aget_aput, hd, hdt]
        · have := ih (by omega) (by omega)
          simp only [addL_ne hki]
          cases hL : L k with
          | false => simpa using this
          | true =>
            simp only [if_true, aget_aput]
            rw [if_neg ((apart_behind C hc ho (by omega) (by omega) hLi hL).2.1 t hdt)]
            exact this
    exact h1 _ hi (Nat.le_refl _)
  · rename_i hdt
    have h1 : ∀ k, k ≤ ops.size → aget (ovA ops E (addL L i) k) t = aget (ovA ops E L k) t := by
      intro k
      induction k with
      | zero => exact fun _ => rfl
      | succ k ih =>
        intro hn
        simp only [ovA]
        by_cases hki : k = i
        · subst hki
          simp only [addL_self, if_true, aget_aput, hd, hdt, if_false, hLi]
          exact ih (by omega)
        · simp only [addL_ne hki]
          cases hL : L k with
          | false => exact ih (by omega)
          | true => simp only [if_true, aget_aput]; rw [show (aget (ovA ops E (addL L i) k) t) = _ from ih (by omega)]
    exact h1 _ (Nat.le_refl _)

theorem add_H (C : Chain X N ops cl E) (hc : Closed ops L) {i : Nat} {o : Oper} (ho : ops[i]? = some o) (hLi : L i = false) (hb : ∀ j, (cl.getD i 0).testBit j = true → L j = true) :
    ovH E (addL L i) ops.size = apps (E i).effs (ovH E L ops.size) := by
  have hi := (Array.getElem?_eq_some_iff.1 ho).1
  have h0 : ∀ k, k ≤ i → ovH E (addL L i) k = ovH E L k := by
    intro k
    induction k with
    | zero => exact fun _ => rfl
    | succ k ih =>
      intro hk
      simp only [ovH, addL_ne (show ¬ k = i by omega)]
      rw [ih (by omega)]
  refine AHeap.ext_ (fun b => ?_) ?_
  · by_cases hw : b ∈ (E i).W
    · have hT : b ∈ (E i).T := by simp [DEnt.T, hw]
      have h1 : ∀ k, i < k → k ≤ ops.size → (ovH E (addL L i) k).get b = (apps (E i).effs (ovH E L i)).get b := by
        intro k
        induction k with
        | zero => intro h; omega
        | succ k ih =>
          intro hk hn
          simp only [ovH]
          by_cases hki : k = i
          · subst hki
            simp [addL_self, h0 k (Nat.le_refl _)]
          · have := ih (by omega) (by omega)
            simp only [addL_ne hki]
            cases hL : L k with
            | false => simpa using this
            | true =>
              simp only [if_true]
              rw [apps_get_notin _ _ ((apart_behind C hc ho (by omega) (by omega) hLi hL).2.2 b hT)]
              exact this
      rw [h1 _ hi (Nat.le_refl _)]
      obtain ⟨e1, e2⟩ := block_same C hc ho hLi hb hT
      exact apps_get_congr _ _ _ (by rw [e1, e2])
    · rw [apps_get_notin _ _ hw]
      have h1 : ∀ k, k ≤ ops.size → (ovH E (addL L i) k).get b = (ovH E L k).get b := by
        intro k
        induction k with
        | zero => exact fun _ => rfl
        | succ k ih =>
          intro hn
          simp only [ovH]
          by_cases hki : k = i
          · subst hki
            simp only [addL_self, if_true, hLi, Bool.false_eq_true, if_false]
            rw [apps_get_notin _ _ hw]
            exact ih (by omega)
          · simp only [addL_ne hki]
            cases hL : L k with
            | false => exact ih (by omega)
            | true => simp only [if_true]; exact apps_get_congr _ _ _ (ih (by omega))
      exact h1 _ (Nat.le_refl _)
  · rw [apps_n]
    have h1 : ∀ k, i < k → k ≤ ops.size → (ovH E (addL L i) k).n = max (ovH E L k).n (topE (E i).effs) := by
      intro k
      induction k with
      | zero => intro h; omega
      | succ k ih =>
        intro hk hn
        simp only [ovH]
        by_cases hki : k = i
        · subst hki
          simp [addL_self, h0 k (Nat.le_refl _), hLi, apps_n]
        · have := ih (by omega) (by omega)
          simp only [addL_ne hki]
          cases hL : L k with
          | false => simpa using this
          | true =>
            simp only [if_true, apps_n]
            rw [this]
            omega
    exact h1 _ hi (Nat.le_refl _)
end
end Go.Alt

/- The abstract layer, part 18: a drawn region. No condition. -/
namespace Go.Alt
open Go Go.RowKit

def cntL (L : Nat → Bool) : Nat → Nat
  | 0 => 0
  | k + 1 => cntL L k + if L k then 0 else 1
theorem cntL_add {L : Nat → Bool} {i : Nat} (hL : L i = false) : ∀ n, (i < n → cntL (addL L i) n + 1 = cntL L n) ∧ (n ≤ i → cntL (addL L i) n = cntL L n)
  | 0 => ⟨fun h => by omega, fun _ => rfl⟩
  | n + 1 => by
    have ih := cntL_add hL n
    by_cases hn : n = i
    · subst hn
      simp only [cntL, addL_self, if_true, hL]
      have := ih.2 (Nat.le_refl _)
      constructor
      · intro _; rw [this]; simp
      · intro h; omega
    · simp only [cntL, addL_ne hn]
      constructor
      · intro h; have := ih.1 (by omega); omega
      · intro h; have := ih.2 (by omega); omega
theorem cntL_zero {L : Nat → Bool} : ∀ n, cntL L n = 0 → ∀ i, i < n → L i = true
  | 0, _, i, h => by omega
  | n + 1, h, i, hi => by
    simp only [cntL] at h
    have h1 : L n = true := by
      cases hL : L n with
      | true => rfl
      | false => rw [hL] at h; simp at h
    by_cases hin : i = n
    · rw [hin]; exact h1
    · exact cntL_zero n (by omega) i (by omega)

theorem mem_ready {ops : Array Oper} {listed : Array Bool} {i : Nat} : i ∈ Region.ready .any ops listed ↔ ∃ o, ops[i]? = some o ∧ listed.getD i true = false ∧ ∀ e ∈ o.after.toList, Region.binds .any e = true → listed.getD e.on false = true := by
  simp only [Region.ready, List.mem_filter, List.mem_range, Bool.and_eq_true, Bool.not_eq_true']
  constructor
  · rintro ⟨hi, h1, h2⟩
    refine ⟨ops[i], Array.getElem?_eq_getElem hi, h1, fun e he hb => ?_⟩
    rw [Array.getElem?_eq_getElem hi] at h2
    simp only [Option.map_some, Option.getD_some, Array.all_eq_true'] at h2
    have := h2 e (by simpa using he)
    simpa [hb] using this
  · rintro ⟨o, ho, h1, h2⟩
    refine ⟨(Array.getElem?_eq_some_iff.1 ho).1, h1, ?_⟩
    rw [ho]
    simp only [Option.map_some, Option.getD_some, Array.all_eq_true']
    intro e he
    cases hb : Region.binds .any e with
    | false => simp
    | true => simp only [Bool.not_true, Bool.false_or]; exact h2 e (by simpa using he) hb

theorem ARep.same {μ : Mem} {N : Nat} {α α' : AAct} {a : Act} (h : ARep μ N α a) (he : ∀ t, aget α' t = aget α t) : ARep μ N α' a := ⟨h.1, fun i => by rw [he]; exact h.2 i⟩
theorem ALow.same {n : Nat} {α α' : AAct} (h : ALow n α) (he : ∀ t, aget α' t = aget α t) : ALow n α' := fun i => by rw [he]; exact h i

section
variable {X : Cx} {N : Nat} {ops : Array Oper} {cl : List Nat} {E : Nat → DEnt} {w0 : Base} {B : Nat} {μ0 : Mem}

theorem wpAny_of_chain {ro : Option Nat} (C : Chain X N ops cl E) (hg0 : GRep X μ0) {Q : Exit → Act → World → Prop}
    (hQ : ∀ a w μ, Ext μ0 μ → Sim w0 B μ (E ops.size).H w → ARep μ N (E ops.size).α a → ALow (E ops.size).H.n (E ops.size).α → LowH (E ops.size).H.n (E ops.size).H → Marks μ0 μ a.defers → Q .normal a w) :
    ∀ (fuel : Nat) (listed : Array Bool) (a : Act) (w : World) (μ : Mem), listed.size = ops.size → cntL (fun i => listed.getD i false) ops.size ≤ fuel → Closed ops (fun i => listed.getD i false) → Ext μ0 μ →
      Sim w0 B μ (ovH E (fun i => listed.getD i false) ops.size) w → ARep μ N (ovA ops E (fun i => listed.getD i false) ops.size) a → ALow (ovH E (fun i => listed.getD i false) ops.size).n (ovA ops E (fun i => listed.getD i false) ops.size) →
      LowH (ovH E (fun i => listed.getD i false) ops.size).n (ovH E (fun i => listed.getD i false) ops.size) → Marks μ0 μ a.defers → wpAnyIn (fen ro) 0 X.P .any ops Q fuel listed a w := by
  have fin : ∀ (listed : Array Bool) (a : Act) (w : World) (μ : Mem), (∀ i, i < ops.size → listed.getD i false = true) → Ext μ0 μ →
      Sim w0 B μ (ovH E (fun i => listed.getD i false) ops.size) w → ARep μ N (ovA ops E (fun i => listed.getD i false) ops.size) a → ALow (ovH E (fun i => listed.getD i false) ops.size).n (ovA ops E (fun i => listed.getD i false) ops.size) →
      LowH (ovH E (fun i => listed.getD i false) ops.size).n (ovH E (fun i => listed.getD i false) ops.size) → Marks μ0 μ a.defers → Q .normal a w := by
    intro listed a w μ hall he hs ha hl hH hM
    have e1 : ∀ k, k ≤ ops.size → ovA ops E (fun i => listed.getD i false) k = ovA ops E (fun _ => true) k := by
      intro k
      induction k with
      | zero => exact fun _ => rfl
      | succ k ih => intro hk; simp only [ovA, hall k (by omega), if_true]; rw [ih (by omega)]
    have e2 : ∀ k, k ≤ ops.size → ovH E (fun i => listed.getD i false) k = ovH E (fun _ => true) k := by
      intro k
      induction k with
      | zero => exact fun _ => rfl
      | succ k ih => intro hk; simp only [ovH, hall k (by omega), if_true]; rw [ih (by omega)]
    rw [e1 _ (Nat.le_refl _), text_A C _ (Nat.le_refl _)] at ha hl
    rw [e2 _ (Nat.le_refl _), text_H C _ (Nat.le_refl _)] at hs hl hH
    exact hQ a w μ he hs ha hl hH hM
  intro fuel
  induction fuel with
  | zero =>
    intro listed a w μ hsz hcnt hc he hs ha hl hH hM
    have hall := cntL_zero ops.size (by omega : cntL (fun i => listed.getD i false) ops.size = 0)
    refine ⟨?_, fin listed a w μ hall he hs ha hl hH hM⟩
    rw [List.eq_nil_iff_forall_not_mem]
    intro i hi
    obtain ⟨o, ho, h1, _⟩ := mem_ready.1 hi
    have hi' := (Array.getElem?_eq_some_iff.1 ho).1
    have := hall i hi'
    simp only [Array.getD, show i < listed.size by omega, dif_pos] at this h1
    rw [this] at h1; cases h1
  | succ fuel ih =>
    intro listed a w μ hsz hcnt hc he hs ha hl hH hM
    refine ⟨fun hr => fin listed a w μ ?_ he hs ha hl hH hM, fun i hi => ?_⟩
    · intro i
      induction i using Nat.strongRecOn with
      | _ i ihi =>
        intro hi
        cases hL : listed.getD i false with
        | true => rfl
        | false =>
          have : i ∈ Region.ready .any ops listed := by
            refine mem_ready.2 ⟨ops[i], Array.getElem?_eq_getElem hi, ?_, fun e he hb => ?_⟩
            · simpa [Array.getD, show i < listed.size by omega] using hL
            · have := C.st.edge i _ e (Array.getElem?_eq_getElem hi) he hb
              exact ihi e.on this (by omega)
          rw [hr] at this
          cases this
    · obtain ⟨o, ho, h1, h2⟩ := mem_ready.1 hi
      have hi' := (Array.getElem?_eq_some_iff.1 ho).1
      have hLi : (fun i => listed.getD i false) i = false := by
        simpa [Array.getD, show i < listed.size by omega] using h1
      have hbits := ready_bits C hc ho h2
      have hL' : (fun j => (listed.setIfInBounds i true).getD j false) = addL (fun j => listed.getD j false) i := by
        funext j
        simp only [addL]
        by_cases hj : j = i
        · subst hj
          simp [Array.getD, show j < listed.size by omega]
        · have : (listed.setIfInBounds i true)[j]? = listed[j]? := Array.getElem?_setIfInBounds_ne (Ne.symm hj)
          simp only [Array.getD_eq_getD_getElem?, this, hj, if_false]
      have T := C.tr i o ho
      have hdo := T.does.2 (ovA ops E (fun i => listed.getD i false) ops.size) (ovH E (fun i => listed.getD i false) ops.size)
        (fun t ht => look_same C hc ho hLi hbits ht) (fun b hb => (block_same C hc ho hLi hbits hb).1)
        ro w0 B μ w a Q (wpAnyIn (fen ro) 0 X.P .any ops Q fuel (listed.setIfInBounds i true)) (hg0.mono he) hs ha hl hH
        (fun x μ' w' k1 k2 k3 k4 => by
          refine ih _ _ _ μ' (by simpa using hsz) ?_ ?_ (he.trans k2) ?_ ?_ ?_ ?_ (by rw [put_defers]; exact hM.mono k2)
          · rw [hL']
            have := (cntL_add (L := fun i => listed.getD i false) hLi ops.size).1 hi'
            omega
          · rw [hL']
            intro k ok hk hLk e hek hbk
            by_cases hki : k = i
            · subst hki
              rw [ho] at hk; injection hk with hk; subst hk
              have hlt := C.st.edge k o e ho hek hbk
              rw [addL_ne (by omega)]
              exact h2 e hek hbk
            · rw [addL_ne hki] at hLk
              have := hc k ok hk hLk e hek hbk
              simp only [addL]
              split
              · rfl
              · exact this
          · rw [hL', add_H C hc ho hLi hbits]; exact k3
          · rw [hL']
            exact ((ha.mono k2).put T.does.1 k1).same (add_A C hc ho hLi)
          · rw [hL', add_H C hc ho hLi hbits]
            exact ((hl.mono k4.2.2).put k4.1 o.dst).same (add_A C hc ho hLi)
          · rw [hL', add_H C hc ho hLi hbits]; exact k4.2.1)
      unfold wpOpIn
      rw [ho]
      simp only
      split
      · rename_i hw
        rw [if_pos hw] at hdo
        exact hdo
      · rename_i hw
        rw [if_neg hw] at hdo
        exact ⟨fun f _ => fen_fn ro f, hdo⟩
end

/-- A drawn region, walked in the text's order. -/
theorem AWp_drawn {X : Cx} {Γ : Tab} (hΓ : TabOk X Γ) {hint : Tmp → Hint} {N : Nat} {id : Nat} {ops : Array Oper} {qn qr : Cont} {qe : Nat → Cont} {α : AAct} {H : AHeap} (hm : X.P.follows .mixedOrders = true) (hst : regOk ops = true) (cl : List Nat) (hcl : clOf ops = cl)
    (h : H.Fresh → dOps X Γ hint N ops ops.toList 0 α H [] (fun α' H' acc => pairsOk cl acc ∧ qn α' H')) : AWp X N (.region id ops true) qn qr qe α H := by
  subst hcl
  intro ro w0 B μ0 μ w a _ hg he hs ha hl hH hM
  obtain ⟨E, acc, e1, e2, e3, ⟨e4, e5⟩, e6, e7, e8⟩ := dOps_trace hΓ ops.toList 0 α H [] (by simp) (Nat.zero_le _) hs.fresh (h hs.fresh)
  simp only [List.nil_append] at e4
  have hap : ∀ j i, j < i → i < ops.size → ((clOf ops).getD i 0).testBit j = false → disj (E j).W (E i).T ∧ disj (E i).W (E j).T := by
    intro j i hji hi hb
    have ej := e6 j (Nat.zero_le _) (by omega)
    have ei := e6 i (Nat.zero_le _) hi
    rcases ej with ⟨t1, t2⟩ | t1
    · rw [t1, t2]; exact ⟨fun x hx => by simp at hx, fun x _ y hy => by simp at hy⟩
    · rcases ei with ⟨t3, t4⟩ | t3
      · rw [t3, t4]; exact ⟨fun x _ y hy => by simp at hy, fun x hx => by simp at hx⟩
      · exact e4.spec e7 _ t1 _ t3 hji hb
  have C : Chain X N ops (clOf ops) E := ⟨regOk_spec hst, fun i o ho => e3 i o (Nat.zero_le _) ho, hap⟩
  have hno : (fun i => (Array.replicate ops.size false).getD i false) = fun _ => false := by
    funext i
    simp [Array.getD]
  have h0A : ∀ k, ovA ops E (fun _ => false) k = α := by
    intro k
    induction k with
    | zero => exact e1
    | succ k ih => simpa [ovA] using ih
  have h0H : ∀ k, ovH E (fun _ => false) k = H := by
    intro k
    induction k with
    | zero => exact e2
    | succ k ih => simpa [ovH] using ih
  have hcnt : ∀ n, cntL (fun _ => false) n = n := by
    intro n
    induction n with
    | zero => rfl
    | succ n ih => simp [cntL, ih]
  refine Go.wpIn_region_any hm ?_
  refine wpAny_of_chain (ro := ro) (X := X) (N := N) C hg (w0 := w0) (B := B) ?_ ops.size _ a w.drew μ (by simp) ?_ ?_ he ?_ ?_ ?_ ?_ hM
  · intro a' w' μ' k1 k2 k3 k4 k5 k6
    exact ⟨_, _, μ', e5, k1, k2, k3, k4, k5, k6⟩
  · rw [hno, hcnt]; exact Nat.le_refl _
  · rw [hno]; intro i o _ h; cases h
  · rw [hno, h0H]; exact hs.drew
  · rw [hno, h0A]; exact ha
  · rw [hno, h0A, h0H]; exact hl
  · rw [hno, h0H]; exact hH

end Go.Alt

/- The abstract layer, part 19: pure functions, tables of them, loops over states, and how a walk is worked out. No condition. -/
namespace Go.Alt
open Go Go.RowKit

/-- Tables of pure functions, as lists. -/
abbrev Ent := FuncId × (List V → Option V)
def tabL : List Ent → Tab
  | [], _, _ => none
  | (f, m) :: l, g, args => if g = f then m args else tabL l g args
def EntOk (X : Cx) (e : Ent) : Prop := ∀ args r, e.2 args = some r → PureCall X e.1 args r
def EntsOk (X : Cx) : List Ent → Prop
  | [] => True
  | e :: l => EntOk X e ∧ EntsOk X l
theorem tabL_ok {X : Cx} : ∀ {l : List Ent}, EntsOk X l → TabOk X (tabL l)
  | [], _, f, args, r, h => by cases h
  | (k, m) :: l, hl, f, args, r, h => by
    simp only [tabL] at h
    split at h
    · rename_i e; subst e; exact hl.1 args r h
    · exact tabL_ok hl.2 f args r h

theorem AWp.mono {X : Cx} {N : Nat} {c : Code} {qn qr qn' qr' : Cont} {qe qe' : Nat → Cont} {α : AAct} {H : AHeap} (h : AWp X N c qn qr qe α H) (hn : ∀ α H, qn α H → qn' α H) (hr : ∀ α H, qr α H → qr' α H) (he : ∀ i α H, qe i α H → qe' i α H) :
    AWp X N c qn' qr' qe' α H := fun ro w0 B μ0 μ w a g0 g1 g2 g3 g4 g5 g6 g7 => Go.wpIn_mono (h ro w0 B μ0 μ w a g0 g1 g2 g3 g4 g5 g6 g7) fun e a' w' hq => by
  cases e with
  | normal => exact Post.mono (X := X) hq hn
  | ret => exact Post.mono (X := X) hq hr
  | exit id => exact Post.mono (X := X) hq (he id)
  | _ => exact hq

/-- The end of a function that leaves the heap alone. -/
def PFin (X : Cx) (rs : List ResultVar) (H0 : AHeap) (r : V) : Cont := fun α H =>
  allOk X α H rs ∧ VLe r (resV (rs.map (aresV X α H))) ∧ H0.n ≤ H.n ∧ H.trunc H0.n = H0
theorem pure_of {X : Cx} {f : FuncId} {fn : Func} {c : Code} {args : List V} {r : V} (hc : Callable X.P f) (hf : X.P.funcs[f]? = some fn) (hb : fn.body = some c) (hn : args.length ≤ fn.ntmps)
    (h : ∀ H : AHeap, H.Fresh → LowL H.n args → Low H.n r ∧ AWp X fn.ntmps c (PFin X fn.results.toList H r) (PFin X fn.results.toList H r) (fun _ _ _ => False) (entryA 0 args) H) : PureCall X f args r := fun H =>
  ACalls_of_awp hc hf hb hn fun hfr hl hH => by
    obtain ⟨h1, h2⟩ := h H hfr hl
    have e : ∀ α H', PFin X fn.results.toList H r α H' → Fin X fn.results.toList H.n (fun v H' => v = r ∧ H' = H) α H' := fun α H' ⟨k1, k2, k3, k4⟩ => ⟨k1, r, H.n, k2, h1, fun _ => by rw [k4]; exact hH, ⟨Nat.le_refl _, k3⟩, rfl, k4⟩
    exact h2.mono e e (fun _ _ _ h => h)
theorem awpE {X : Cx} {E : List Ent} (hE : EntsOk X E) (hint : Tmp → Hint) {N : Nat} {c : Code} {qn qr : Cont} {qe : Nat → Cont} {α : AAct} {H : AHeap} (h : awp X (tabL E) hint N c qn qr qe α H) : AWp X N c qn qr qe α H := awp_sound (tabL_ok hE) _ _ _ _ _ _ h

/-- The places that are kept of a state. -/
def pickA (α : AAct) : List Nat → AAct
  | [] => []
  | k :: ks => (k, aget α k) :: pickA α ks
theorem aget_pickA {α : AAct} : ∀ (ks : List Nat) (i : Nat), aget (pickA α ks) i = aget α i ∨ aget (pickA α ks) i = .any
  | [], i => .inr rfl
  | k :: ks, i => by
    simp only [pickA, aget]
    split
    · rename_i h; subst h; exact .inl rfl
    · exact aget_pickA ks i
/-- The first has at each of its places what stands for what the second has there. -/
def KView : List Nat → AAct → AAct → Prop
  | [], _, _ => True
  | k :: ks, α', α => VLe (aget α' k) (aget α k) ∧ KView ks α' α
def keysA : AAct → List Nat
  | [] => []
  | (k, _) :: r => k :: keysA r
theorem aget_nokey {i : Nat} : ∀ {α : AAct}, i ∉ keysA α → aget α i = .any
  | [], _ => rfl
  | (k, v) :: r, h => by
    simp only [keysA, List.mem_cons, not_or] at h
    simp only [aget]
    rw [if_neg h.1, aget_nokey h.2]
theorem KView.get {α α' : AAct} {i : Nat} : ∀ {ks : List Nat}, KView ks α' α → i ∈ ks → VLe (aget α' i) (aget α i)
  | k :: ks, h, hi => by
    rcases List.mem_cons.1 hi with rfl | hi
    · exact h.1
    · exact h.2.get hi
theorem KView.all {α α' : AAct} (h : KView (keysA α') α' α) (i : Nat) : VLe (aget α' i) (aget α i) := by
  by_cases hi : i ∈ keysA α'
  · exact h.get hi
  · rw [aget_nokey hi]; exact VLe.any_ _
theorem aget_append {α β : AAct} (i : Nat) : aget (α ++ β) i = aget α i ∧ i ∈ keysA α ∨ aget (α ++ β) i = aget β i := by
  induction α with
  | nil => exact .inr rfl
  | cons p r ih =>
    obtain ⟨k, v⟩ := p
    simp only [List.cons_append, aget, keysA, List.mem_cons]
    by_cases h : i = k
    · simp [h]
    · simp only [h, if_false, false_or]
      exact ih

/-- A loop over a family of states: places that change, places that stay, and a heap. -/
theorem AWp_loopG {X : Cx} {N : Nat} {c : Code} {qn qr : Cont} {qe : Nat → Cont} {α : AAct} {H : AHeap} {σ : Type} (ks : List Nat) (C : σ → AAct) (Hf : σ → AHeap) (m : σ → Nat) (I : σ → Prop) (s0 : σ) (h0 : I s0)
    (hH0 : Hf s0 = H) (hC0 : KView (keysA (C s0)) (C s0) α) (hn : ∀ s, (Hf s).n = H.n) (hlow : ∀ s, I s → AllLow H.n (C s)) (hlowH : LowH H.n H → ∀ s, I s → LowH H.n (Hf s))
    (round : ∀ s, I s → AWp X N c (fun α' H' => ∃ s', I s' ∧ m s' < m s ∧ KView (keysA (C s' ++ pickA α ks)) (C s' ++ pickA α ks) α' ∧ H'.trunc H.n = Hf s' ∧ H.n ≤ H'.n) qr qe (C s ++ pickA α ks) (Hf s)) : AWp X N (.loop c) qn qr qe α H := by
  intro ro w0 B μ0 μ w a hro hg he hs ha hl hH hM
  have low : ∀ s, I s → ALow H.n (C s ++ pickA α ks) := fun s hI i => by
    rcases aget_append (α := C s) (β := pickA α ks) i with ⟨h1, h2⟩ | h1
    · rw [h1]; exact (hlow s hI).low i
    · rw [h1]
      rcases aget_pickA (α := α) ks i with h2 | h2
      · rw [h2]; exact hl i
      · rw [h2]; exact .any
  refine AWp_loop (fun s => C s ++ pickA α ks) Hf m I s0 h0 ⟨?_, ?_, ?_⟩ (fun s hI => (round s hI).mono ?_ (fun _ _ h => h) (fun _ _ _ h => h)) ro w0 B μ0 μ w a hro hg he hs ha hl hH hM
  · rw [hH0]
    exact HView.refl hs.fresh hH (Nat.le_refl _)
  · intro i
    rcases aget_append (α := C s0) (β := pickA α ks) i with ⟨h1, h2⟩ | h1
    · rw [h1]; exact hC0.get h2
    · rw [h1]
      rcases aget_pickA (α := α) ks i with h2 | h2
      · rw [h2]; exact VLe.rfl_ _
      · rw [h2]; exact VLe.any_ _
  · rw [hn]; exact low s0 h0
  · rintro α' H' ⟨s', hI', hm, hk, ht, hle⟩
    refine ⟨s', hI', hm, ?_, hk.all, ?_⟩
    · rw [← ht]
      exact HView.trunc (Nat.le_refl _) hle (by rw [ht]; exact hlowH hH s' hI')
    · rw [hn]; exact low s' hI'
theorem AWp_tip {X : Cx} {N : Nat} {c : Code} {qn qr : Cont} {qe : Nat → Cont} {α : AAct} {H : AHeap} (k : Nat) (h : AWp X N c qn qr qe α (H.push (.tip k))) : AWp X N c qn qr qe α H :=
  fun ro w0 B μ0 μ w a hro hg he hs ha hl hH hM => by
    have hs' := hs.newTip0 (id := H.n) (hs.fresh _ (Nat.le_refl _)) k
    rw [AHeap.new_n] at hs'
    refine h ro w0 B μ0 μ w a hro hg he hs' ha (hl.mono (by simp)) ?_ hM
    intro b blk hb
    simp only [AHeap.get_push] at hb
    split at hb
    · injection hb with hb; subst hb; trivial
    · exact (hH b blk hb).mono (by simp)

theorem AHeap.new_eq {H : AHeap} {id : Nat} (h : id = H.n) (blk : ABlock) : H.new id blk = H.push blk := by subst h; exact AHeap.new_n H blk

theorem AWp_congr {X : Cx} {N : Nat} {c : Code} {α α' : AAct} {H H' : AHeap} (hα : α = α') (hH : H = H') (qn qr : Cont) (qe : Nat → Cont) : AWp X N c qn qr qe α H = AWp X N c qn qr qe α' H' := by rw [hα, hH]
/-- One round of a loop's counter. -/
theorem wrap_succ {i n : Nat} (h : i < n) (hn : n ≤ 4611686018427387904) : IntKind.i64.wrap ((i : Int) + 1) = (i : Int) + 1 := IntWalk.i64_in _ (by omega)

theorem disj_nil_l (b : List Nat) : disj [] b = True := by simp [disj]
theorem disj_nil_r (a : List Nat) : disj a [] = True := by simp [disj]
theorem disj_cons (x : Nat) (a b : List Nat) : disj (x :: a) b = ((∀ y ∈ b, x ≠ y) ∧ disj a b) := by simp [disj]
attribute [simp] pairsOk footOk disj_nil_l disj_nil_r disj_cons Eff.blk
attribute [congr] AWp_congr awp_congr awpOps_congr guardK_congr pureK_congr condK_congr dOps_congr effK_congr
attribute [simp ↓] astep dstepK agstep
attribute [simp] awp awpOps guardK_some pureK_some pureK_none condK_true condK_false condK_bool effK_nil effK_cons dOps addFoot
attribute [simp] apure arec dstOk aput aget aeval entryA ofValue ofCell guardV gtmp gdAll V.coreOf V.gd V.core yields must fail apps Eff.app
attribute [simp] lookupR mupR mfind keyEq mapOf isKeyT
attribute [simp] binR binI binS eqR eqV eqT isConst pickV Op.operands Call.operands tabL
attribute [simp] PFin allOk aresOk aresV resV pickA KView keysA AllLow
attribute [simp] keys setsE V.cells V.flat V.one Value.cells Value.oneCell' fieldsOk fillV placeOf elemsOf splice sliceR bnd elemsV appendOk appendR foldI minI maxI convR builtinR
attribute [simp] zeroV zeroCells hasZero byOf fieldAt elemOf arrOf loadV loadOk szOf aggOf hasType isStrT isSliceT isIfaceT isPtrT isBoolT intOfT
attribute [simp] List.getD_eq_getElem?_getD
attribute [simp] AHeap.get_push AHeap.get_set AHeap.get_tip AHeap.get_mset AHeap.set_push AHeap.mset_push AHeap.tip_push AHeap.trunc_push AHeap.trunc_set AHeap.trunc_self AHeap.new_eq VLe.rfl_

end Go.Alt

/- The abstract layer, part 20: a range over a function. No condition. -/
namespace Go.Alt
open Go Go.RowKit

/-- Another context that knows no less. -/
structure Sub (X' X : Cx) : Prop where
  P : X'.P = X.P
  G : X'.G = X.G
  K : ∀ μ, X'.K μ → X.K μ
theorem Sub.refl_ (X : Cx) : Sub X X := ⟨rfl, rfl, fun _ h => h⟩
theorem Sub.grep {X' X : Cx} (s : Sub X' X) {μ : Mem} (h : GRep X' μ) : GRep X μ := ⟨fun g cs hg => h.1 g cs (by rw [s.G]; exact hg), s.K μ h.2⟩
theorem ACalls.sub {X' X : Cx} (s : Sub X' X) {f : FuncId} {args : List V} {H : AHeap} {Φ : V → AHeap → Prop} (h : ACalls X f args H Φ) : ACalls X' f args H Φ := by
  refine ⟨by rw [s.P]; exact h.1, fun w0 B μ w vals hs hg hr l1 l2 => ?_⟩
  rw [s.P]
  exact h.2 w0 B μ w vals hs (s.grep hg) hr l1 l2
theorem PureCall.sub {X' X : Cx} (s : Sub X' X) {f : FuncId} {args : List V} {r : V} (h : PureCall X f args r) : PureCall X' f args r := fun H => (h H).sub s
theorem TabOk.sub {X' X : Cx} (s : Sub X' X) {Γ : Tab} (h : TabOk X Γ) : TabOk X' Γ := fun f args r hr => (h f args r hr).sub s

/-- A frame with a round's values laid into its places. -/
def putP : List Tmp → List V → AAct → AAct
  | p :: ps, v :: vs, α => putP ps vs ((p, v) :: α)
  | _, _, α => α

/-- The end of a round: what is left of the heap, and what yield hands back. -/
def RFin (bl n : Nat) (jump : Option Code) (Ψ : V → AHeap → Prop) : Cont := fun _ H =>
  ∃ n', (n ≤ n' ∧ n' ≤ H.n) ∧ (n' < H.n → LowH n' (H.trunc n')) ∧ (∃ st p, H.get bl = some (.lp st p)) ∧ Ψ (.bool jump.isNone) ((H.trunc n').lset bl (if jump.isNone then .ready else .done) jump)

/-- What a round does, in the abstract. -/
def Round (X : Cx) (N : Nat) (ps : List Tmp) (assign body : Code) (α : AAct) (bl : Nat) (args : List V) (H : AHeap) (Ψ : V → AHeap → Prop) : Prop :=
  args.length = ps.length ∧ H.get bl = some (.lp .ready none) ∧
    AWp X N assign (fun α1 H1 => H1.get bl = some (.lp .ready none) ∧ H.n ≤ H1.n ∧
      AWp X N body (RFin bl H.n none Ψ) (RFin bl H.n (some .ret) Ψ) (fun id => RFin bl H.n (some (.exit id)) Ψ) α1 (H1.lset bl .busy none))
      (fun _ _ => False) (fun _ _ _ => False) (putP ps args α) H

theorem putP_low {n : Nat} : ∀ {ps : List Tmp} {vs : List V} {α : AAct}, ALow n α → LowL n vs → ALow n (putP ps vs α)
  | [], _, α, h, _ => h
  | _ :: _, [], α, h, _ => h
  | p :: ps, v :: vs, α, h, hl => putP_low (ps := ps) (vs := vs) (by
      have := h.put (hl v (by simp)) (some p)
      exact this) (fun u hu => hl u (by simp [hu]))
theorem putP_rep {μ : Mem} {N : Nat} : ∀ {ps : List Tmp} {vs : List V} {xs : List Value} {α : AAct} {t : Array Value}, (∀ p ∈ ps, p < N) → VReps μ vs xs → vs.length = ps.length → ARep μ N α { tmps := t, defers := [] } →
    ARep μ N (putP ps vs α) { tmps := (ps.zip xs).foldl (fun t (p, v) => t.setIfInBounds p v) t, defers := [] }
  | [], vs, xs, α, t, _, _, _, h => by simpa [putP] using h
  | p :: ps, [], xs, α, t, _, _, hl, h => by simp at hl
  | p :: ps, v :: vs, xs, α, t, hp, hr, hl, h => by
    obtain ⟨x, ys, rfl, h1, h2⟩ := hr.of_cons
    simp only [putP, List.zip_cons_cons, List.foldl_cons]
    refine putP_rep (fun q hq => hp q (by simp [hq])) h2 (by simpa using hl) ?_
    have := h.put (dst := some p) (hp p (by simp)) h1
    exact this

theorem run_getLoop' {P : Program} {w : World} {l : Nat} {r : Loop} (h : w.heap[l]? = some (.loop r)) : (Instr.getLoop l).run P w = .ok r w := by
  simp [Instr.getLoop, getObj, Sem.run_bind, Sem.run, h, Result.andThen]

theorem run_setObj' {P : Program} {w : World} {l : Nat} {r : Loop} (ob : Obj) (h : w.heap[l]? = some (.loop r)) : (setObj l ob).run P w = .ok () { w with heap := w.heap.setIfInBounds l ob } := by
  simp [setObj, Sem.run, h]

theorem fen_inRound (ro : Option Nat) (l : Nat) : (fen ro).inRound l = fen (some l) := by cases ro <;> rfl

theorem yields_of_round {X X1 : Cx} (s : Sub X1 X) {N : Nat} {ps : List Tmp} {assign body : Code} {α : AAct} {bl lw : Nat} {L0 : Loop} {args : List V} {H : AHeap} {Ψ : V → AHeap → Prop}
    (hK : ∀ μ, X1.K μ → μ.lp bl = some (lw, L0) ∧ ARep μ N α { tmps := L0.tmps, defers := [] }) (hps : L0.params.toList = ps) (has : L0.assign = assign) (hbo : L0.body = body) (hN : ∀ p ∈ ps, p < N) (hal : ALow bl α)
    (h : Round X N ps assign body α bl args H Ψ) : AYields X1 bl args H Ψ := by
  intro ro w0 B μ w vals l L hlL hs hg hr l1 l2
  obtain ⟨hlen, hrd, hbody⟩ := h
  obtain ⟨hlp, har⟩ := hK μ hg.2
  obtain ⟨e1, e2⟩ : l = lw ∧ L = L0 := by rw [hlL] at hlp; injection hlp with hlp; injection hlp with a b; exact ⟨a, b⟩
  subst e1; subst e2
  have hgX := s.grep hg
  obtain ⟨st, p, g1, g2, g3⟩ := hs.lp bl l L hlp
  rw [hrd] at g1
  injection g1 with g1
  injection g1 with q1 q2
  subst q1; subst q2
  have hbl := hs.lp_lt hlp
  have hvl : vals.length = args.length := hr.1
  have hpsz : L.params.size = ps.length := by rw [← hps]; simp
  refine ⟨L.fn, (L.params.zip vals.toArray).foldl (fun tmps (t, a) => tmps.setIfInBounds t a) L.tmps, assign, body, ?_, ?_⟩
  · rw [s.P]
    simp only [Instr.yield, Sem.run_bind, run_getLoop' g2, Result.andThen_ok]
    have : ¬ vals.toArray.size ≠ L.params.size := by simp [hpsz, hvl, hlen]
    rw [if_neg this, has, hbo]
    rfl
  · rw [s.P]
    have hro : RoOk (some l) μ := fun l' h' => by injection h' with h'; subst h'; exact ⟨bl, L, hlp⟩
    have hfold : (L.params.zip vals.toArray).foldl (fun tmps (t, a) => tmps.setIfInBounds t a) L.tmps = (ps.zip vals).foldl (fun tmps (t, a) => tmps.setIfInBounds t a) L.tmps := by
      rw [← hps, ← Array.foldl_toList]
      simp
    refine roundIn_of_wpIn (fen_fn ro _) ?_
    rw [fen_inRound, hfold]
    have harr := putP_rep (ps := ps) (vs := args) (xs := vals) hN hr hlen har
    refine Go.wpIn_mono (hbody (some l) w0 B μ μ w _ hro hgX (Ext.refl μ) hs harr (putP_low (hal.mono (Nat.le_of_lt hbl)) l1) l2 (Marks.nil_ _ _)) ?_
    intro e a1 w1 hq
    cases e with
    | normal =>
      obtain ⟨α1, H1, μ1, ⟨c1, c2, c3⟩, k1, k2, k3, k4, k5, k6⟩ := hq
      have hlp1 := k1.lp _ _ hlp
      obtain ⟨st1, p1, e1, e2, e3⟩ := k2.lp bl l L hlp1
      rw [c1] at e1
      injection e1 with e1
      injection e1 with q1 q2
      subst q1; subst q2
      refine ⟨_, by simp only [Instr.beginRound, Sem.run_bind, run_getLoop' e2, Result.andThen_ok, run_setObj' _ e2]; rfl, ?_⟩
      have hs2 := k2.setLp hlp1 .busy none
      have hH2 : LowH (H1.lset bl .busy none).n (H1.lset bl .busy none) := fun b blk hb => by
        simp only [AHeap.lset] at hb
        split at hb
        · injection hb with hb; subst hb; trivial
        · exact k5 b blk hb
      refine Go.wpIn_mono (c3 (some l) w0 B μ μ1 _ a1 hro hgX k1 hs2 k3 k4 hH2 k6) ?_
      have fin : ∀ (jump : Option Code) (a2 : Act) (w2 : World), Post X w0 B N μ (RFin bl H.n jump Ψ) a2 w2 →
          ∃ v w', (Instr.endRound l jump).run X.P w2 = .ok v w' ∧ (fun e w' => ∃ v x μ' H', e = Ending.returned x ∧ VRep μ' v x ∧ Ext μ μ' ∧ Sim w0 B μ' H' w' ∧ (Low H'.n v ∧ LowH H'.n H' ∧ H.n ≤ H'.n) ∧ Ψ v H') (.returned v) w' := by
        intro jump a2 w2 ⟨α2, H2, μ2, ⟨n', ⟨d0, d1⟩, d2', ⟨st2, p2, d3⟩, d4⟩, m1, m2, m3, m4, m5, m6⟩
        have d2 := m5.truncAt d2' d1
        have hlp2 := m1.lp _ _ hlp
        obtain ⟨st3, p3, f1, f2, f3⟩ := m2.lp bl l L hlp2
        have hv : HView n' H2 (H2.trunc n') := HView.trunc (Nat.le_refl _) d1 d2
        have hs3 := m2.view hv
        have hlp3 : (μ2.low (H2.trunc n').n).lp bl = some (l, L) := by simp only [Mem.low]; rw [if_pos (show bl < (H2.trunc n').n from Nat.lt_of_lt_of_le hbl d0)]; exact hlp2
        have hs4 := hs3.setLp hlp3 (if jump.isNone then .ready else .done) jump
        refine ⟨.bool jump.isNone, _, by simp only [Instr.endRound, Sem.run_bind, run_getLoop' f2, Result.andThen_ok, run_setObj' _ f2]; rfl, .bool jump.isNone, _, _, _, rfl, .bool _, m1.low (hs.dom.mono d0), hs4, ⟨.bool _, ?_, d0⟩, d4⟩
        intro b blk hb
        simp only [AHeap.lset] at hb
        split at hb
        · injection hb with hb; subst hb; trivial
        · exact d2 b blk hb
      intro e a2 w2 hq
      cases e with
      | normal => exact fin none a2 w2 hq
      | ret => exact fin (some .ret) a2 w2 hq
      | exit id => exact fin (some (.exit id)) a2 w2 hq
      | _ => exact hq.elim
    | ret => obtain ⟨_, _, _, k, _⟩ := hq; exact k.elim
    | exit id => obtain ⟨_, _, _, k, _⟩ := hq; exact k.elim
    | _ => exact hq.elim

/-- What follows a range over a function, by the jump that a round left. -/
def jumpTo (qn qr : Cont) (qe : Nat → Cont) : Option Code → Cont
  | none => qn
  | some .ret => qr
  | some (.exit id) => qe id
  | _ => fun _ _ => False
def RangeEnd (qn qr : Cont) (qe : Nat → Cont) (α : AAct) (n : Nat) (H : AHeap) : Prop :=
  ∃ n', (n ≤ n' ∧ n' ≤ H.n) ∧ (n' < H.n → LowH n' (H.trunc n')) ∧ ∃ st p, H.get n = some (.lp st p) ∧ st ≠ .busy ∧ jumpTo qn qr qe p α ((H.lset n .exhausted p).trunc n')

theorem AHeap.trunc_lset {H : AHeap} {n : Nat} (st : LoopState) (p : Option Code) : (H.lset n st p).trunc n = H.trunc n := by
  simp only [AHeap.trunc, AHeap.lset, AHeap.mk.injEq, and_true]
  funext i
  by_cases hi : i < n
  · have : i ≠ n := by omega
    simp [hi, this]
  · simp [hi]

/-- The statement 'for .. := range g { .. }' over a function. -/
theorem AWp_range {X : Cx} {N : Nat} {g : Operand} {ps : Array Tmp} {assign body : Code} {qn qr : Cont} {qe : Nat → Cont} {α : AAct} {H : AHeap} {gf : FuncId} {first caps : List V}
    (hg : aeval X α g = .fn (.func gf) first caps) (hps : ∀ p ∈ ps.toList, p < N) (Φ : AHeap → Prop)
    (hiter : ∀ (X1 : Cx), Sub X1 X → (∀ args H' Ψ, Round X N ps.toList assign body α H.n args H' Ψ → AYields X1 H.n args H' Ψ) → H.Fresh → LowH H.n H →
      ACalls X1 gf (first ++ [.yld H.n] ++ caps) (H.push (.lp .ready none)) (fun _ H' => Φ H'))
    (hend : H.Fresh → LowH H.n H → ∀ H', Φ H' → RangeEnd qn qr qe α H.n H') : AWp X N (.rangeFunc g ps assign body) qn qr qe α H := by
  intro ro w0 B μ0 μ w a hro hg0 he hs ha hl hH hM
  have hfr := hs.fresh
  have hd : Dom H.n μ0 := Dom.of_ext he hs.dom
  -- behind the record
  have core : ∀ (fn : FuncId) (dF : Nat) (mark : List Deferred) (μ1 : Mem) (w1 : World), Ext μ μ1 → Sim w0 B μ1 H w1 → Marks μ0 μ1 (mark ++ a.defers) →
      ∃ (d : Deferred) (w₁' : World) (f : FuncId) (args : Array Value) (w₂ : World),
        (resolve a.eval (rangeCall g w1.heap.size) 0).run X.P (w1.alloc (.loop { state := .ready, pending := none, fn, tmps := a.tmps, params := ps, assign, body, defers := dF })) = .ok d w₁' ∧
        (invoke d.target d.args).run X.P w₁' = .ok (.enter f args) w₂ ∧
        CallsIn (fen ro) (0 - 1) X.P f args w₂ (rangePost (fen ro) 0 X.P w1.heap.size (conc X w0 B N μ0 qn qr qe) { a with defers := mark ++ a.defers }) := by
    intro fn dF mark μ1 w1 h1 hs1 hM1
    let L : Loop := { state := .ready, pending := none, fn, tmps := a.tmps, params := ps, assign, body, defers := dF }
    obtain ⟨he2, hs2⟩ := hs1.newLp (hfr H.n (Nat.le_refl _)) L
    rw [AHeap.new_n] at hs2
    have hfv := aeval_rep ha (hg0.mono he) g
    rw [hg] at hfv
    cases hfc : a.eval g <;> rw [hfc] at hfv <;> cases hfv
    rename_i fs cs q1 q2 q3 q4
    let X1 : Cx := { P := X.P, G := X.G, K := fun m => X.K m ∧ m.lp H.n = some (w1.heap.size, L) ∧ ARep m N α { tmps := a.tmps, defers := [] }, kmono := fun m m' e h => ⟨X.kmono m m' e h.1, e.lp _ _ h.2.1, h.2.2.mono e⟩ }
    have hsub : Sub X1 X := ⟨rfl, rfl, fun _ h => h.1⟩
    have hy : ∀ args H' Ψ, Round X N ps.toList assign body α H.n args H' Ψ → AYields X1 H.n args H' Ψ := fun args H' Ψ hR =>
      yields_of_round (L0 := L) (lw := w1.heap.size) hsub (fun m hm => hm.2) rfl rfl rfl hps hl hR
    obtain ⟨hcall, hcalls⟩ := hiter X1 hsub hy hfr hH
    have e3 : Ext μ (μ1.newLp H.n w1.heap.size L) := h1.trans he2
    have hargs : VReps (μ1.newLp H.n w1.heap.size L) (first ++ [.yld H.n] ++ caps) (fs ++ [.func (.yield w1.heap.size) #[] #[]] ++ cs) := by
      have hA : VReps μ first fs := by constructor <;> assumption
      have hB : VReps μ caps cs := by constructor <;> assumption
      exact ((hA.mono e3).append (VReps.cons_ (.yld _ _ L (by simp [Mem.newLp])) .nil_)).append (hB.mono e3)
    have hgl := aeval_low hl (hg0.mono he) g
    rw [hg] at hgl
    have hlow : LowL (H.push (.lp .ready none)).n (first ++ [.yld H.n] ++ caps) := by
      cases hgl with
      | fn _ _ _ l1 l2 => exact LowL.append (LowL.append (LowL.mono (by simp) l1) (LowL.cons_ (.yld _ (by simp)) .nil_)) (LowL.mono (by simp) l2)
    have hlowH : LowH (H.push (.lp .ready none)).n (H.push (.lp .ready none)) := fun b blk hb => by
      simp only [AHeap.get_push] at hb
      split at hb
      · injection hb with hb; subst hb; trivial
      · exact (hH b blk hb).mono (by simp)
    have hgr : GRep X1 (μ1.newLp H.n w1.heap.size L) := ⟨((hg0.mono he).mono e3).1, ((hg0.mono he).mono e3).2, by simp [Mem.newLp], (ha.mono e3)⟩
    have hc := hcalls w0 B _ _ _ hs2 hgr hargs hlow hlowH
    have hres : ∀ w' : World, (resolve a.eval (rangeCall g w1.heap.size) 0).run X.P w' = .ok { target := .fn (.func gf) cs.toArray, args := (fs ++ [Value.func (.yield w1.heap.size) #[] #[]]).toArray } w' := fun w' => by
      simp only [resolve, rangeCall, Deferred.ofValue, hfc, Sem.run_pure]
      simp [Act.eval]
    have hinv : (invoke (.fn (.func gf) cs.toArray) (fs ++ [Value.func (.yield w1.heap.size) #[] #[]]).toArray).run X.P (w1.alloc (.loop L)) = .ok (.enter gf (fs ++ [Value.func (.yield w1.heap.size) #[] #[]] ++ cs).toArray) (w1.alloc (.loop L)) := by
      have := hcall (fs ++ [Value.func (.yield w1.heap.size) #[] #[]] ++ cs).toArray (w1.alloc (.loop L))
      simp only [invoke]
      rw [← this]
      congr 2
      apply Array.ext'
      simp
    have hfin : Calls X.P gf (fs ++ [Value.func (.yield w1.heap.size) #[] #[]] ++ cs).toArray (w1.alloc (.loop L)) (rangePost (fen ro) 0 X.P w1.heap.size (conc X w0 B N μ0 qn qr qe) { a with defers := mark ++ a.defers }) := by
      refine Calls.mono hc ?_
      intro e w3 ⟨v, x, μ3, H3, k1, k2, k3, k4, k5, k6⟩
      subst k1
      obtain ⟨n', ⟨r0, r1⟩, r2', st, p, r3, r4, r5⟩ := hend hfr hH H3 k6
      have hlp3 : μ3.lp H.n = some (w1.heap.size, L) := k3.lp _ _ (by simp [Mem.newLp])
      obtain ⟨st', p', f1, f2, f3⟩ := k4.lp H.n _ L hlp3
      rw [r3] at f1
      injection f1 with f1
      injection f1 with z1 z2
      subst z1; subst z2
      have hs4 := k4.setLp hlp3 .exhausted p
      have hLx : LowH (H3.lset H.n .exhausted p).n (H3.lset H.n .exhausted p) := fun b blk hb => by
        simp only [AHeap.lset] at hb
        split at hb
        · injection hb with hb; subst hb; trivial
        · exact k5.2.1 b blk hb
      have r2 : LowH n' ((H3.lset H.n .exhausted p).trunc n') := hLx.truncAt (fun hlt => by
        have := r2' hlt
        intro b blk hb
        simp only [AHeap.trunc, AHeap.lset] at hb
        split at hb
        · split at hb
          · injection hb with hb; subst hb; trivial
          · refine this b blk ?_
            simp only [AHeap.trunc]
            rw [if_pos (by assumption)]; exact hb
        · cases hb) r1
      have hv : HView n' (H3.lset H.n .exhausted p) ((H3.lset H.n .exhausted p).trunc n') := HView.trunc (Nat.le_refl _) r1 r2
      have hs5 := hs4.view hv
      have eall : Ext μ0 μ3 := he.trans (e3.trans k3)
      have e5 : Ext μ0 (μ3.low n') := eall.low (hd.mono r0)
      have har : ARep (μ3.low n') N α { a with defers := mark ++ a.defers } := (ha.mono (e3.trans k3)).view (fun i => VLe.rfl_ _) (hl.mono r0)
      have hM5 : Marks μ0 (μ3.low n') (mark ++ a.defers) := (hM1.mono (he2.trans k3)).low _
      refine ⟨p, { w3 with heap := w3.heap.setIfInBounds w1.heap.size (.loop { L with state := .exhausted, pending := p }) }, ?_, ?_⟩
      · simp only [Instr.endLoop, Sem.run_bind, run_getLoop' f2, Result.andThen_ok]
        have : (st == LoopState.busy) = false := by cases st <;> first | rfl | exact absurd rfl r4
        simp only [this, Bool.false_eq_true, if_false, Sem.run_bind, run_setObj' _ f2, Result.andThen_ok]
        rfl
      · have post : ∀ q : Cont, q α ((H3.lset H.n .exhausted p).trunc n') → Post X w0 B N μ0 q { a with defers := mark ++ a.defers } { w3 with heap := w3.heap.setIfInBounds w1.heap.size (.loop { L with state := .exhausted, pending := p }) } := fun q hq => ⟨α, _, _, hq, e5, hs5, har, hl.mono r0, r2, hM5⟩
        cases p with
        | none => exact post _ r5
        | some c =>
          cases c with
          | ret => exact Go.wpIn_ret (post _ r5)
          | exit id => exact Go.wpIn_exit (post _ r5)
          | _ => exact r5.elim
    exact ⟨_, _, gf, _, _, hres _, hinv, callsIn_fen ro _ hfin⟩
  refine wpIn_rangeFunc fun fn _ => ?_
  rw [fen_round]
  cases ro with
  | none =>
    obtain ⟨d1, d2, d3⟩ := hs.newDfr
    have hM1 : Marks μ0 (μ.newDfr w.heap.size) ([{ target := .collected w.heap.size, args := #[] }] ++ a.defers) := by
      obtain ⟨cs, m1, m2, m3⟩ := hM
      have hc0 : μ0.dfr w.heap.size = false := by
        cases hx : μ0.dfr w.heap.size with
        | false => rfl
        | true => rw [he.dfr _ hx] at d3; cases d3
      refine ⟨w.heap.size :: cs, List.nodup_cons.2 ⟨fun hm => ?_, m1⟩, by rw [m2]; rfl, fun c hc => ?_⟩
      · have := (m3 _ hm).1; rw [d3] at this; cases this
      · rcases List.mem_cons.1 hc with rfl | hc
        · exact ⟨by simp [Mem.newDfr], hc0⟩
        · exact ⟨d1.dfr _ (m3 c hc).1, (m3 c hc).2⟩
    obtain ⟨d, w₁', f, args, w₂, k1, k2, k3⟩ := core fn w.heap.size _ _ _ d1 d2 hM1
    exact ⟨(w.alloc (.deferred (some []))).heap.size, _, _, d, w₁', f, args, w₂, by
      simp only [Instr.enterLoop, Sem.run_bind, run_newObj_alloc, Result.andThen_ok, Sem.run_pure], k1, fun f' _ => fen_fn none f', k2, (fun h => by cases h), k3⟩
  | some l0 =>
    obtain ⟨b0, L0, hb0⟩ := hro l0 rfl
    obtain ⟨st0, p0, f1, f2, f3⟩ := hs.lp b0 l0 L0 (he.lp _ _ hb0)
    obtain ⟨d, w₁', f, args, w₂, k1, k2, k3⟩ := core fn L0.defers [] μ w (Ext.refl μ) hs hM
    exact ⟨w.heap.size, _, _, d, w₁', f, args, w₂, by simp [Instr.enterLoop, Sem.run_bind, run_getLoop' f2, run_newObj_alloc, Result.andThen], k1, fun f' _ => fen_fn (some l0) f', k2, (fun h => by cases h), k3⟩

end Go.Alt

/- The abstract layer, part 21: what a walk may use of where it comes, and loops over heaps that are known by a predicate. No condition. -/
namespace Go.Alt
open Go Go.RowKit

/-- Where a walk comes, the heap is in order. -/
theorem AWp.facts {X : Cx} {N : Nat} {c : Code} {qn qr : Cont} {qe : Nat → Cont} {α : AAct} {H : AHeap}
    (h : AWp X N c (fun α' H' => H'.Fresh → LowH H'.n H' → qn α' H') (fun α' H' => H'.Fresh → LowH H'.n H' → qr α' H') (fun i α' H' => H'.Fresh → LowH H'.n H' → qe i α' H') α H) : AWp X N c qn qr qe α H :=
  fun ro w0 B μ0 μ w a g0 g1 g2 g3 g4 g5 g6 g7 => Go.wpIn_mono (h ro w0 B μ0 μ w a g0 g1 g2 g3 g4 g5 g6 g7) fun e a' w' hq => by
    have key : ∀ q : Cont, Post X w0 B N μ0 (fun α' H' => H'.Fresh → LowH H'.n H' → q α' H') a' w' → Post X w0 B N μ0 q a' w' := fun q ⟨α', H', μ', k, h1, h2, h3, h4, h5, h6⟩ => ⟨α', H', μ', k h2.fresh h5, h1, h2, h3, h4, h5, h6⟩
    cases e with
    | normal => exact key _ hq
    | ret => exact key _ hq
    | exit id => exact key _ hq
    | _ => exact hq
theorem AWp.facts0 {X : Cx} {N : Nat} {c : Code} {qn qr : Cont} {qe : Nat → Cont} {α : AAct} {H : AHeap} (h : H.Fresh → LowH H.n H → ALow H.n α → AWp X N c qn qr qe α H) : AWp X N c qn qr qe α H :=
  fun ro w0 B μ0 μ w a g0 g1 g2 g3 g4 g5 g6 g7 => h g3.fresh g6 g5 ro w0 B μ0 μ w a g0 g1 g2 g3 g4 g5 g6 g7

/-- A loop over a family of states whose heaps are known by a predicate. -/
theorem AWp_loopP {X : Cx} {N : Nat} {c : Code} {qn qr : Cont} {qe : Nat → Cont} {α : AAct} {H : AHeap} {σ : Type} (ks : List Nat) (C : σ → AAct) (J : σ → AHeap → Prop) (m : σ → Nat) (s0 : σ) (h0 : J s0 H)
    (hC0 : KView (keysA (C s0)) (C s0) α) (hn : ∀ s H', J s H' → H'.n = H.n) (hlow : ∀ s H', J s H' → AllLow H.n (C s))
    (round : ∀ s H', J s H' → H'.Fresh → LowH H.n H' → AWp X N c (fun α'' H'' => ∃ s', m s' < m s ∧ KView (keysA (C s' ++ pickA α ks)) (C s' ++ pickA α ks) α'' ∧ H.n ≤ H''.n ∧ J s' (H''.trunc H.n) ∧ LowH H.n (H''.trunc H.n)) qr qe (C s ++ pickA α ks) H') :
    AWp X N (.loop c) qn qr qe α H := by
  refine AWp.facts0 fun hF hL hA => ?_
  have low : ∀ s H', J s H' → ALow H.n (C s ++ pickA α ks) := fun s H' hJ i => by
    rcases aget_append (α := C s) (β := pickA α ks) i with ⟨h1, h2⟩ | h1
    · rw [h1]; exact (hlow s H' hJ).low i
    · rw [h1]
      rcases aget_pickA (α := α) ks i with h2 | h2
      · rw [h2]; exact hA i
      · rw [h2]; exact .any
  refine AWp_loop (σ := σ × AHeap) (fun s => C s.1 ++ pickA α ks) (fun s => s.2) (fun s => m s.1) (fun s => J s.1 s.2 ∧ s.2.Fresh ∧ LowH H.n s.2) (s0, H) ⟨h0, hF, hL⟩ ⟨?_, ?_, ?_⟩ (fun s hI => (round s.1 s.2 hI.1 hI.2.1 hI.2.2).mono ?_ (fun _ _ h => h) (fun _ _ _ h => h))
  · exact HView.refl hF hL (Nat.le_refl _)
  · intro i
    rcases aget_append (α := C s0) (β := pickA α ks) i with ⟨h1, h2⟩ | h1
    · simp only [h1]; exact hC0.get h2
    · simp only [h1]
      rcases aget_pickA (α := α) ks i with h2 | h2
      · rw [h2]; exact VLe.rfl_ _
      · rw [h2]; exact VLe.any_ _
  · exact low s0 H h0
  · rintro α' H' ⟨s', hm, hk, hle, hJ, hLt⟩
    have hn' : (H'.trunc H.n).n = H.n := rfl
    refine ⟨(s', H'.trunc H.n), ⟨hJ, fun i hi => by simp only [AHeap.trunc] at hi ⊢; rw [if_neg (by omega)], hLt⟩, hm, HView.trunc (Nat.le_refl _) hle hLt, hk.all, low s' _ hJ⟩

end Go.Alt

/- The abstract layer, part 23: a call that knows of no block of its caller's does alike under every heap. No condition. -/
namespace Go.Alt
open Go Go.RowKit

def AHeap.nil : AHeap := ⟨fun _ => none, 0⟩

/-- Blocks of deferred calls stand for no value. -/
theorem VRep.anyDfr {μ : Mem} (d : Nat → Bool) {v : V} {x : Value} (h : VRep μ v x) : VRep { μ with dfr := d } v x := by
  induction h with
  | any x => exact .any x
  | bool b => exact .bool b
  | int k n => exact .int k n
  | str s => exact .str s
  | fn f fs cs fs' cs' hf hc _ _ i1 i2 => exact .fn f fs cs fs' cs' hf hc i1 i2
  | nilFn => exact .nilFn
  | nilPtr => exact .nilPtr
  | nilIf => exact .nilIf
  | con v => exact .con v
  | ptr b off c h => exact .ptr b off c h
  | pin cs c off xs hc _ i1 => exact .pin cs c off xs hc i1
  | msl b off len size c cap h hcap => exact .msl b off len size c cap h hcap
  | mp b c h => exact .mp b c h
  | slcNil o => exact .slcNil o
  | slc o es c off len cap sz xs hlen hcap hsz hc _ ho i1 => exact .slc o es c off len cap sz xs hlen hcap hsz hc i1 (by cases o <;> exact ho)
  | agg cs cs' hl _ h1 ih => exact .agg cs cs' hl ih h1
  | tup cs cs' hl _ ih => exact .tup cs cs' hl ih
  | opt g v x _ h0 ih => exact .opt g v x ih h0
  | yld b c L h => exact .yld b c L h

/-- The knowledge of cells that stay alone. -/
def Mem.bare (μ : Mem) : Mem := { μ.low 0 with dfr := fun _ => false }
theorem VRep.bare {μ : Mem} {v : V} {x : Value} (h : VRep μ v x) (k : Low 0 v) : VRep μ.bare v x := (h.low k).anyDfr _

theorem Sim.bare {w0 : Base} {w : World} {B : Nat} {μ : Mem} {H : AHeap} (h : Sim w0 B μ H w) : Sim ⟨w, μ.imm⟩ w.heap.size μ.bare AHeap.nil w where
  below := Below.refl _ _
  old := fun _ _ _ _ hx => hx
  base := Nat.le_refl _
  imm := h.imm
  fresh := fun _ _ => rfl
  box := fun b c hb => by simp [Mem.bare, Mem.low] at hb
  inj := fun b b' c hb => by simp [Mem.bare, Mem.low] at hb
  tip := fun b t hb => by simp [Mem.bare, Mem.low] at hb
  tinj := fun b b' t t' hb => by simp [Mem.bare, Mem.low] at hb
  mp := fun b c hb => by simp [Mem.bare, Mem.low] at hb
  minj := fun b b' c hb => by simp [Mem.bare, Mem.low] at hb
  dfr := fun c hc => by simp [Mem.bare] at hc
  lp := fun b c L hb => by simp [Mem.bare, Mem.low] at hb
  linj := fun b b' c L L' hb => by simp [Mem.bare, Mem.low] at hb

/-- Back to the caller's knowledge, with the cells that the call made known. -/
theorem Sim.unbare {w0 : Base} {w w' : World} {B : Nat} {μ μ2 : Mem} {H H2 : AHeap} (h : Sim w0 B μ H w) (k : Sim ⟨w, μ.imm⟩ w.heap.size μ2 H2 w') (he : ∀ c o x, μ.imm c o = some x → μ2.imm c o = some x) :
    Ext μ { μ with imm := μ2.imm } ∧ Sim w0 B { μ with imm := μ2.imm } H w' := by
  have he' : Ext μ { μ with imm := μ2.imm } := ⟨he, fun _ _ h => h, fun b t h => ⟨t, h, Nat.le_refl _, fun _ => rfl⟩, fun _ _ h => h, fun _ h => h, fun _ _ h => h⟩
  have hold : ∀ c o, c < w.heap.size → μ.imm c o = none → μ2.imm c o = none := fun c o hlt hn => by
    cases hx : μ2.imm c o with
    | none => rfl
    | some x => have := k.old c o x hlt hx; simp only at this; rw [hn] at this; cases this
  refine ⟨he', ?_, ?_, ?_, k.imm, h.fresh, ?_, h.inj, ?_, h.tinj, ?_, h.minj, ?_, ?_, h.linj⟩
  · exact h.below.trans (k.below.mono h.base)
  · intro c o x hlt hx
    exact h.old c o x hlt (k.old c o x (Nat.lt_of_lt_of_le hlt h.base) hx)
  · exact Nat.le_trans h.base k.below.size
  · intro b c hb
    obtain ⟨cs, vs, e, h1, h2, h3, h4, h5, h6⟩ := h.box b c hb
    have hlt := h.box_block_lt hb
    exact ⟨cs, vs, e, h1, (k.below.block c hlt).trans h2, h3.mono he', h4, fun o => hold c o hlt (h5 o), h6⟩
  · intro b t hb
    obtain ⟨h1, h2, h3, h4, h5, vs, e, h6, h7⟩ := h.tip b t hb
    have hlt := h.tip_block_lt hb
    exact ⟨h1, h2, h3, fun o ho => hold t.c o hlt (h4 o ho), h5, vs, e, (k.below.block t.c hlt).trans h6, h7⟩
  · intro b c hb
    obtain ⟨es, xs, kk, h1, h2, h3, h4⟩ := h.mp b c hb
    exact ⟨es, xs, kk, h1, (k.below.block c (h.mp_block_lt hb)).trans h2, h3.mono he', h4⟩
  · intro c hc
    exact ⟨(k.below.block c (h.dfr_block_lt hc)).trans (h.dfr c hc).1, (h.dfr c hc).2⟩
  · intro b c L hb
    obtain ⟨st, p, h1, h2, h3⟩ := h.lp b c L hb
    exact ⟨st, p, h1, (k.below.block c (h.lp_block_lt hb)).trans h2, h3⟩

/-- A call's contract over the empty heap is one over every heap. -/
theorem PureCall.of_nil {X : Cx} (hK : ∀ μ, X.K μ) {f : FuncId} {args : List V} {r : V} (ha : LowL 0 args) (hr : Low 0 r) (h : ACalls X f args AHeap.nil (fun v _ => v = r)) : PureCall X f args r := by
  intro H
  refine ⟨h.1, fun w0 B μ w vals hs hg hv hl hH => ?_⟩
  have hv' : VReps μ.bare args vals := ⟨hv.1, fun i hi => (hv.2 i hi).bare (ha _ (getD_mem hi))⟩
  have hg' : GRep X μ.bare := ⟨fun g cs hgc => ⟨(hg.1 g cs hgc).1.bare (.pin _ (hg.1 g cs hgc).2), (hg.1 g cs hgc).2⟩, hK _⟩
  refine (h.2 _ _ _ w vals hs.bare hg' hv' ha (fun b blk hb => by cases hb)).mono ?_
  rintro e w' ⟨v, x, μ2, H2, rfl, h1, h2, h3, h4, rfl⟩
  obtain ⟨k1, k2⟩ := hs.unbare h3 h2.imm
  refine ⟨v, x, { μ with imm := μ2.imm }, H, rfl, ?_, k1, k2, ⟨hr.mono (Nat.zero_le _), hH, Nat.le_refl _⟩, rfl, rfl⟩
  have he : Ext { μ2.low 0 with dfr := μ.dfr } { μ with imm := μ2.imm } := by
    refine ⟨fun _ _ _ h => h, ?_, ?_, ?_, fun _ h => h, ?_⟩ <;> intro _ _ h <;> simp [Mem.low] at h
  exact ((h1.low hr).anyDfr μ.dfr).mono he

theorem callable_of {P : Program} {f : FuncId} {fn : Func} {c : Code} (hf : P.funcs[f]? = some fn) (hb : fn.body = some c) (hn : (fn.name == "runtime.NumGoroutine") = false) : Callable P f := by
  intro args w
  simp only [beq_eq_false_iff_ne, ne_eq] at hn
  simp [callFunc, hf, hn, hb]
end Go.Alt

/- The abstract layer, part 24: the side conditions of operations, worked out. No condition. -/
namespace Go.Alt
open Go Go.RowKit

def loadB (P : Program) (t : TypeId) (cs : List V) : Bool := (P.underlying t).isSome && hasType P t && (if aggOf P t then Nat.ble (szOf P t) cs.length else Nat.blt 0 cs.length)
theorem loadB_ok {P : Program} {t : TypeId} {cs : List V} (h : loadB P t cs = true) : loadOk P t cs := by
  simp only [loadB, Bool.and_eq_true] at h
  refine ⟨h.1.1, h.1.2, ?_⟩
  have h2 := h.2
  split <;> rename_i hb <;> simp only [hb] at h2
  · exact Nat.le_of_ble_eq_true h2
  · exact Nat.le_of_ble_eq_true h2
def allLen (n : Nat) : List (List V) → Bool
  | [] => true
  | c :: r => Nat.beq c.length n && allLen n r
theorem allLen_ok {n : Nat} : ∀ {l : List (List V)}, allLen n l = true → ∀ c ∈ l, c.length = n
  | [], _, c, hc => by simp at hc
  | d :: r, h, c, hc => by
    simp only [allLen, Bool.and_eq_true] at h
    rcases List.mem_cons.1 hc with rfl | hc
    · exact Nat.eq_of_beq_eq_true h.1
    · exact allLen_ok h.2 c hc
def appendB (P : Program) (e : TypeId) (es ys : List (List V)) : Bool :=
  hasType P e && hasZero P e && Nat.beq (zeroCells P e).length (szOf P e) && allLen (szOf P e) es && allLen (szOf P e) ys &&
    Nat.ble (es.length + ys.length) 9223372036854775807 && Nat.ble ((es.length + ys.length) * byOf P e) 140737488355328
theorem appendB_ok {P : Program} {e : TypeId} {es ys : List (List V)} (h : appendB P e es ys = true) : appendOk P e es ys := by
  simp only [appendB, Bool.and_eq_true] at h
  obtain ⟨⟨⟨⟨⟨⟨h1, h2⟩, h3⟩, h4⟩, h5⟩, h6⟩, h7⟩ := h
  exact ⟨h1, h2, Nat.eq_of_beq_eq_true h3, allLen_ok h4, allLen_ok h5, Nat.le_of_ble_eq_true h6, Nat.le_of_ble_eq_true h7⟩

def binIB (op : BinOp) (b : Int) : Bool :=
  match op with
  | .add | .sub | .mul | .eql | .neq | .lss | .leq | .gtr | .geq => true
  | .quo | .rem => !(b == 0)
  | _ => false
theorem binIB_ok {op : BinOp} {k : IntKind} {a b : Int} (h : binIB op b = true) : (binI op k a b).ok := by
  cases op <;> simp_all [binIB, binI, yields, must]
def binSB (op : BinOp) (a b : ByteArray) : Bool :=
  match op with
  | .add => Nat.ble (a.size + b.size) 9223372036854775807
  | .eql | .neq => true
  | _ => false
theorem binSB_ok {op : BinOp} {a b : ByteArray} (h : binSB op a b = true) : (binS op a b).ok := by
  cases op <;> simp only [binSB] at h <;> simp only [binS, yields, must] <;> first | cases h | exact Nat.le_of_ble_eq_true h
def eqRB (P : Program) (t : TypeId) (x y : Operand) (a b : V) : Bool :=
  match a, b with
  | .nilIf, .nilIf => isIfaceT P t && (isConst x || isConst y)
  | .con (.iface _ _), .nilIf => isIfaceT P t
  | .nilIf, .con (.iface _ _) => isIfaceT P t
  | a, b => (eqV P t a b).isSome
theorem eqRB_ok {P : Program} {neg : Bool} {t : TypeId} {x y : Operand} {a b : V} (h : eqRB P t x y a b = true) : (eqR P neg t x y a b).ok := by
  unfold eqR
  unfold eqRB at h
  split at h
  · simp only [h, if_true]; trivial
  · simp only [h, if_true]; trivial
  · simp only [h, if_true]; trivial
  · rename_i q1 q2 q3
    split
    · exact (q1 rfl rfl).elim
    · exact (q2 _ _ rfl rfl).elim
    · exact (q3 _ _ rfl rfl).elim
    · split
      · trivial
      · rename_i hn; rw [hn] at h; cases h
def binB (P : Program) (op : BinOp) (t : TypeId) (x y : Operand) (a b : V) : Bool :=
  match a, b with
  | .int k _, .int k' n => decide (k = k') && binIB op n
  | .str m, .str n => binSB op m n
  | a, b => match op with
    | .eql => eqRB P t x y a b
    | .neq => eqRB P t x y a b
    | _ => false
theorem binB_ok {P : Program} {op : BinOp} {t : TypeId} {x y : Operand} {a b : V} (h : binB P op t x y a b = true) : (binR P op t x y a b).ok := by
  unfold binR
  unfold binB at h
  split at h
  · simp only [Bool.and_eq_true, decide_eq_true_eq] at h
    simp only [h.1, if_true]
    exact binIB_ok h.2
  · exact binSB_ok h
  · rename_i h1 h2
    split
    · exact absurd rfl (h1 _ _ _ _ rfl)
    · exact absurd rfl (h2 _ _ rfl)
    · split at h
      · exact eqRB_ok h
      · exact eqRB_ok h
      · cases h

def bndB (o : Option V) (dflt most : Nat) : Bool :=
  match o with
  | none => Nat.ble dflt most
  | some (.int _ i) => decide (0 ≤ i) && decide (i ≤ (most : Int))
  | some _ => false
theorem bndB_ok {o : Option V} {d m : Nat} (h : bndB o d m = true) : (bnd o d m).1 := by
  unfold bnd
  unfold bndB at h
  split at h
  · exact Nat.le_of_ble_eq_true h
  · simpa using h
  · cases h
def sliceB (P : Program) (t : TypeId) (x : V) (lo hi mx : Option V) : Bool :=
  match x with
  | .str s =>
    match mx with
    | some _ => false
    | none => isStrT P t && bndB hi s.size s.size && bndB lo 0 (bnd hi s.size s.size).2
  | .slc _ es =>
    match elemOf P t with
    | none => false
    | some e =>
      match mx with
      | none => bndB hi es.length es.length && bndB lo 0 (bnd hi es.length es.length).2 && hasType P e && allLen (szOf P e) es
      | some m => bndB (some m) 0 es.length && hi.isSome && bndB hi es.length (bnd (some m) 0 es.length).2 && bndB lo 0 (bnd hi es.length (bnd (some m) 0 es.length).2).2 &&
                  Nat.beq (bnd (some m) 0 es.length).2 (bnd hi es.length (bnd (some m) 0 es.length).2).2 && hasType P e && allLen (szOf P e) es
  | .ptr _ _ =>
    match arrOf P t with
    | none => false
    | some (n, e) =>
      match mx with
      | some _ => false
      | none => bndB hi n n && bndB lo 0 (bnd hi n n).2 && hasType P e && Nat.blt (bnd lo 0 (bnd hi n n).2).2 n
  | _ => false
theorem sliceB_ok {P : Program} {t : TypeId} {x : V} {lo hi mx : Option V} (h : sliceB P t x lo hi mx = true) : (sliceR P t x lo hi mx).ok := by
  unfold sliceR
  unfold sliceB at h
  split at h
  · split at h
    · cases h
    · simp only [Bool.and_eq_true] at h
      exact ⟨h.1.1, bndB_ok h.1.2, bndB_ok h.2⟩
  · split at h
    · cases h
    · rename_i he
      simp only [he]
      split at h
      · simp only [Bool.and_eq_true] at h
        exact ⟨bndB_ok h.1.1.1, bndB_ok h.1.1.2, h.1.2, allLen_ok h.2⟩
      · simp only [Bool.and_eq_true] at h
        obtain ⟨⟨⟨⟨⟨⟨h1, h2⟩, h3⟩, h4⟩, h5⟩, h6⟩, h7⟩ := h
        exact ⟨bndB_ok h1, h2, bndB_ok h3, bndB_ok h4, Nat.eq_of_beq_eq_true h5, h6, allLen_ok h7⟩
  · split at h
    · cases h
    · rename_i he
      simp only [he]
      split at h
      · cases h
      · simp only [Bool.and_eq_true] at h
        exact ⟨bndB_ok h.1.1.1, bndB_ok h.1.1.2, h.1.2, Nat.le_of_ble_eq_true h.2⟩
  · cases h

def appendRB (P : Program) (hint : Hint) (t : TypeId) (H : AHeap) (s x : V) : Bool :=
  match elemOf P t, elemsV H x with
  | some e, some (ys, _) =>
    match s with
    | .slc .full es =>
      match hint with
      | .imm => appendB P e es ys
      | .tip => appendB P e es ys
      | .box => appendB P e es ys && Nat.blt 0 ys.length
    | .slc (.tip b) es =>
      match H.get b with
      | some (.tip m) => appendB P e es ys && Nat.beq m es.length
      | _ => false
    | _ => false
  | _, _ => false
theorem appendRB_ok {P : Program} {hint : Hint} {nid : Nat} {t : TypeId} {H : AHeap} {s x : V} (h : appendRB P hint t H s x = true) : (appendR P hint nid t H s x).ok := by
  unfold appendR
  unfold appendRB at h
  split at h
  · rename_i e ys rd he hx
    simp only [he, hx]
    split at h
    · split at h
      · exact appendB_ok h
      · exact appendB_ok h
      · simp only [Bool.and_eq_true] at h
        exact ⟨appendB_ok h.1, Nat.le_of_ble_eq_true h.2⟩
    · rename_i b es
      split at h
      · rename_i m hm
        simp only [Bool.and_eq_true] at h
        simp only [hm]
        exact ⟨appendB_ok h.1, Nat.eq_of_beq_eq_true h.2⟩
      · cases h
    · cases h
  · cases h

def convB (P : Program) (H : AHeap) (src dst : TypeId) (x : V) : Bool :=
  match P.underlying src, P.underlying dst, x with
  | some _, some (.int _), .int _ _ => true
  | some _, some .string, .str _ => true
  | some (.slice e), some .string, x =>
    match intOfT P e, elemsV H x with
    | some .u8, some (es, _) => (bytesOf es).isSome
    | _, _ => false
  | _, _, _ => false
theorem convB_ok {P : Program} {H : AHeap} {a b : TypeId} {x : V} (h : convB P H a b x = true) : (convR P H a b x).ok := by
  unfold convB at h
  split at h
  · rename_i h1 h2; unfold convR; simp only [h1, h2, yields]
  · rename_i h1 h2; unfold convR; simp only [h1, h2, yields]
  · rename_i u v e y hh h1 h2
    split at h
    · rename_i es rd h3 h4
      cases hb : bytesOf es with
      | none => rw [hb] at h; cases h
      | some bs =>
        unfold convR
        simp only [hh, h1, h3, h4, hb]
    · cases h
  · cases h

def builtinB (P : Program) (hint : Hint) (H : AHeap) (b : Builtin) (ts : List TypeId) (args : List V) : Bool :=
  match b, ts, args with
  | .len, [t], [.str _] => isStrT P t
  | .len, [t], [.slc _ _] => isSliceT P t
  | .len, [t], [.msl _ _ _ _] => isSliceT P t
  | .len, [t], [.agg _] => (arrOf P t).isSome
  | .append, [t, t'], [s, x] => decide (t = t') && appendRB P hint t H s x
  | .min, _, .int k a :: rest => (foldI minI k a rest).isSome
  | .max, _, .int k a :: rest => (foldI maxI k a rest).isSome
  | _, _, _ => false
theorem builtinB_ok {P : Program} {hint : Hint} {nid : Nat} {H : AHeap} {b : Builtin} {ts : List TypeId} {args : List V} (h : builtinB P hint H b ts args = true) : (builtinR P hint nid H b ts args).ok := by
  unfold builtinB at h
  split at h
  · exact h
  · exact h
  · exact h
  · rename_i t cs
    simp only [builtinR]
    split
    · trivial
    · rename_i q; rw [q] at h; cases h
  · simp only [Bool.and_eq_true, decide_eq_true_eq] at h
    simp only [builtinR, h.1, if_true]
    exact appendRB_ok (h.1 ▸ h.2)
  · rename_i k a rest
    simp only [builtinR]
    split
    · trivial
    · rename_i q; rw [q] at h; cases h
  · rename_i k a rest
    simp only [builtinR]
    split
    · trivial
    · rename_i q; rw [q] at h; cases h
  · cases h

def lookupB (P : Program) (H : AHeap) (t : TypeId) (m k : V) : Bool :=
  match mapOf P t, m with
  | some (kt, et), .mp b =>
    match H.get b with
    | some (.map es) =>
      match mfind k es 0 with
      | some (some _) => isKeyT P kt k
      | some none => (zeroV P et).isSome && isKeyT P kt k
      | none => false
    | _ => false
  | _, _ => false
theorem lookupB_ok {P : Program} {H : AHeap} {t : TypeId} {m k : V} {c : Bool} (h : lookupB P H t m k = true) : (lookupR P H t m k c).ok := by
  unfold lookupB at h
  unfold lookupR
  split at h
  · rename_i kt et b hm
    simp only [hm]
    split at h
    · rename_i es hb
      simp only [hb]
      split at h
      · rename_i p hf
        simp only [hf]
        exact h
      · rename_i hf
        simp only [hf]
        simp only [Bool.and_eq_true] at h
        split
        · exact h.2
        · rename_i q; rw [q] at h; exact absurd h.1 (by simp)
      · cases h
    · cases h
  · cases h
def mupB (P : Program) (H : AHeap) (t : TypeId) (m k : V) : Bool :=
  match mapOf P t, m with
  | some (kt, _), .mp b =>
    match H.get b with
    | some (.map es) => (mfind k es 0).isSome && isKeyT P kt k
    | _ => false
  | _, _ => false
theorem mupB_ok {P : Program} {H : AHeap} {t : TypeId} {m k v : V} (h : mupB P H t m k = true) : (mupR P H t m k v).ok := by
  unfold mupB at h
  unfold mupR
  split at h
  · rename_i kt et b hm
    simp only [hm]
    split at h
    · rename_i es hb
      simp only [hb]
      simp only [Bool.and_eq_true] at h
      split
      · exact h.2
      · exact h.2
      · rename_i q; rw [q] at h; exact absurd h.1 (by simp)
    · cases h
  · cases h

/-- The side condition of an operation, worked out. -/
def okB (X : Cx) (hint : Hint) (ρ : Operand → V) (H : AHeap) : Op → Bool
  | .move _ => true
  | .assign _ => true
  | .pick c a b =>
    match ρ c with
    | .bool t => if t then (ρ a).gd else (ρ b).gd
    | _ => false
  | .alloc t => hasType X.P t && hasZero X.P t
  | .box _ x => (ρ x).flat
  | .build t parts =>
    match fillV (placeOf X.P t) (zeroCells X.P t) (parts.toList.map fun p => (p.1, ρ p.2)) with
    | some _ => fieldsOk X.P t && hasZero X.P t
    | none => false
  | .buildSlice t len parts =>
    match elemOf X.P t with
    | none => false
    | some e =>
      match elemsOf (szOf X.P e) 0 (parts.toList.map fun p => (p.1, ρ p.2)) with
      | none => false
      | some es => Nat.beq es.length len && hasType X.P e && hasZero X.P e && Nat.beq (zeroCells X.P e).length (szOf X.P e) && Nat.ble (len * szOf X.P e) 16777216
  | .load t a =>
    match ρ a with
    | .ptr b off =>
      match H.get b with
      | some (.box cs) => loadB X.P t (cs.drop off)
      | _ => false
    | .pin cs => loadB X.P t cs
    | _ => false
  | .store t a x =>
    match ρ a with
    | .ptr b off =>
      match H.get b with
      | some (.box cs) => hasType X.P t && (ρ x).flat && Nat.beq (ρ x).cells.length (szOf X.P t) && Nat.ble (off + szOf X.P t) cs.length
      | _ => false
    | _ => false
  | .nilCheck x =>
    match ρ x with
    | .ptr _ _ => true
    | .pin _ => true
    | .fn (.func _) _ _ => true
    | _ => false
  | .fieldAddr t x i =>
    match fieldAt X.P t i, ρ x with
    | some (_, ft), .ptr _ _ => hasType X.P ft && !Nat.beq (szOf X.P ft) 0
    | some (_, ft), .pin _ => hasType X.P ft && !Nat.beq (szOf X.P ft) 0
    | _, _ => false
  | .field t x i =>
    match fieldAt X.P t i, ρ x with
    | some (o, ft), .agg cs => loadB X.P ft (cs.drop o)
    | _, _ => false
  | .indexAddr t x ix =>
    match ρ x, ρ ix with
    | .slc _ es, .int _ i =>
      match elemOf X.P t with
      | some e => hasType X.P e && decide (0 ≤ i) && decide (i < (es.length : Int)) && Nat.beq (es.getD i.toNat []).length (szOf X.P e)
      | none => false
    | .msl _ _ len size, .int _ i =>
      match elemOf X.P t with
      | some e => hasType X.P e && decide (0 ≤ i) && decide (i < (len : Int)) && Nat.beq size (szOf X.P e)
      | none => false
    | .ptr _ _, .int _ i =>
      match arrOf X.P t with
      | some (n, e) => hasType X.P e && decide (0 ≤ i) && decide (i < (n : Int))
      | none => false
    | .pin _, .int _ i =>
      match arrOf X.P t with
      | some (n, e) => hasType X.P e && decide (0 ≤ i) && decide (i < (n : Int))
      | none => false
    | _, _ => false
  | .index t x ix =>
    match ρ x, ρ ix with
    | .str s, .int _ i => isStrT X.P t && decide (0 ≤ i) && decide (i < (s.size : Int))
    | .agg cs, .int _ i =>
      match arrOf X.P t with
      | some (n, e) => hasType X.P e && decide (0 ≤ i) && decide (i < (n : Int)) && loadB X.P e (cs.drop (i.toNat * szOf X.P e))
      | none => false
    | _, _ => false
  | .binOp op t x y _ => binB X.P op t x y (ρ x) (ρ y)
  | .unOp op _ x =>
    match op, ρ x with
    | .not, .bool _ => true
    | .neg, .int _ _ => true
    | _, _ => false
  | .convert src dst x => convB X.P H src dst (ρ x)
  | .makeMap _ none => true
  | .lookup t m k _ => lookupB X.P H t (ρ m) (ρ k)
  | .mapUpdate t m k _ => mupB X.P H t (ρ m) (ρ k)
  | .insert t m k _ => mupB X.P H t (ρ m) (ρ k)
  | .makeFunc _ _ _ => true
  | .makeSlice t l c =>
    match elemOf X.P t, ρ l, ρ c with
    | some e, .int _ n, .int _ m => hasType X.P e && hasZero X.P e && Nat.beq (zeroCells X.P e).length (szOf X.P e) && decide (0 ≤ n) && decide (n = m) && decide ((byOf X.P e : Int) * m ≤ 281474976710656) && decide (m ≤ 9223372036854775807)
    | _, _, _ => false
  | .slice t x lo hi mx => sliceB X.P t (ρ x) (lo.map ρ) (hi.map ρ) (mx.map ρ)
  | .extract x i =>
    match ρ x with
    | .tup vs => Nat.blt i vs.length
    | _ => false
  | .call c =>
    match c.callee with
    | .builtin b => builtinB X.P hint H b c.argTypes.toList (c.args.toList.map ρ)
    | _ => false
  | _ => false

theorem okB_ok {X : Cx} {hint : Hint} {nid : Nat} {ρ : Operand → V} {H : AHeap} {op : Op} (h : okB X hint ρ H op = true) : (arec X hint nid ρ H op).ok := by
  cases op <;> simp only [okB] at h <;> simp only [arec]
  case move => trivial
  case assign => trivial
  case pick c a b =>
    split at h
    · rename_i t ht
      simp only [ht]
      refine ⟨fun q => ?_, fun q => ?_⟩ <;> subst q <;> simpa using h
    · cases h
  case alloc t => simpa using h
  case box t x => exact h
  case build t ps =>
    split at h
    · rename_i cs hc
      rw [hc]
      simpa using h
    · cases h
  case buildSlice t n ps =>
    split at h
    · cases h
    · rename_i e he
      rw [he]
      simp only
      split at h
      · cases h
      · rename_i es hes
        rw [hes]
        simp only [Bool.and_eq_true] at h
        obtain ⟨⟨⟨⟨h1, h2⟩, h3⟩, h4⟩, h5⟩ := h
        have : es.length = n ∧ hasType X.P e = true ∧ hasZero X.P e = true ∧ (zeroCells X.P e).length = szOf X.P e ∧ n * szOf X.P e ≤ 16777216 := ⟨Nat.eq_of_beq_eq_true h1, h2, h3, Nat.eq_of_beq_eq_true h4, Nat.le_of_ble_eq_true h5⟩
        cases hint <;> exact this
  case load t a =>
    split at h
    · rename_i b off ha
      rw [ha]; simp only
      split at h
      · rename_i cs hb
        rw [hb]; exact loadB_ok h
      · cases h
    · rename_i cs ha
      rw [ha]; exact loadB_ok h
    · cases h
  case store t a x =>
    split at h
    · rename_i b off ha
      rw [ha]; simp only
      split at h
      · rename_i cs hb
        rw [hb]
        simp only [Bool.and_eq_true] at h
        exact ⟨h.1.1.1, h.1.1.2, Nat.eq_of_beq_eq_true h.1.2, Nat.le_of_ble_eq_true h.2⟩
      · cases h
    · cases h
  case nilCheck x =>
    split at h
    · rename_i q; rw [q]; trivial
    · rename_i q; rw [q]; trivial
    · rename_i q; rw [q]; trivial
    · cases h
  case fieldAddr t x i =>
    split at h
    · rename_i q1 q2
      simp only [q1, q2]
      simp only [Bool.and_eq_true, Bool.not_eq_true'] at h
      exact ⟨h.1, fun q => absurd h.2 (by rw [q]; decide)⟩
    · rename_i q1 q2
      simp only [q1, q2]
      simp only [Bool.and_eq_true, Bool.not_eq_true'] at h
      exact ⟨h.1, fun q => absurd h.2 (by rw [q]; decide)⟩
    · cases h
  case field t x i =>
    split at h
    · rename_i q1 q2
      simp only [q1, q2]
      exact loadB_ok h
    · cases h
  case indexAddr t x ix =>
    split at h
    · rename_i q1 q2
      simp only [q1, q2]
      split at h
      · rename_i q3
        rw [q3]
        simp only [Bool.and_eq_true, decide_eq_true_eq] at h
        exact ⟨h.1.1.1, h.1.1.2, h.1.2, Nat.eq_of_beq_eq_true h.2⟩
      · cases h
    · rename_i q1 q2
      simp only [q1, q2]
      split at h
      · rename_i q3
        rw [q3]
        simp only [Bool.and_eq_true, decide_eq_true_eq] at h
        exact ⟨h.1.1.1, h.1.1.2, h.1.2, Nat.eq_of_beq_eq_true h.2⟩
      · cases h
    · rename_i q1 q2
      simp only [q1, q2]
      split at h
      · rename_i q3
        rw [q3]
        simp only [Bool.and_eq_true, decide_eq_true_eq] at h
        exact ⟨h.1.1, h.1.2, h.2⟩
      · cases h
    · rename_i q1 q2
      simp only [q1, q2]
      split at h
      · rename_i q3
        rw [q3]
        simp only [Bool.and_eq_true, decide_eq_true_eq] at h
        exact ⟨h.1.1, h.1.2, h.2⟩
      · cases h
    · cases h
  case index t x ix =>
    split at h
    · rename_i q1 q2
      simp only [q1, q2]
      simp only [Bool.and_eq_true, decide_eq_true_eq] at h
      exact ⟨h.1.1, h.1.2, h.2⟩
    · rename_i q1 q2
      simp only [q1, q2]
      split at h
      · rename_i q3
        rw [q3]
        simp only [Bool.and_eq_true, decide_eq_true_eq] at h
        exact ⟨h.1.1.1, h.1.1.2, h.1.2, loadB_ok h.2⟩
      · cases h
    · cases h
  case binOp op t x y yt => exact binB_ok h
  case unOp op t x =>
    split at h
    · rename_i q; simp only [q]; trivial
    · rename_i q; simp only [q]; trivial
    · cases h
  case convert a b x => exact convB_ok h
  case makeMap t r => cases r <;> simp_all [okB]
  case lookup t m k c => exact lookupB_ok h
  case mapUpdate t m k v => exact mupB_ok h
  case insert t m k v => exact mupB_ok h
  case makeFunc f a b => exact ⟨fun _ _ => trivial, fun _ _ => trivial⟩
  case makeSlice t l c =>
    split at h
    · rename_i q1 q2 q3
      simp only [q1, q2, q3]
      simp only [Bool.and_eq_true, decide_eq_true_eq] at h
      obtain ⟨⟨⟨⟨⟨⟨h1, h2⟩, h3⟩, h4⟩, h5⟩, h6⟩, h7⟩ := h
      exact ⟨h1, h2, Nat.eq_of_beq_eq_true h3, h4, h5, h6, h7⟩
    · cases h
  case slice t x lo hi mx => exact sliceB_ok h
  case extract x i =>
    split at h
    · rename_i q; rw [q]; exact Nat.le_of_ble_eq_true h
    · cases h
  case call c =>
    obtain ⟨callee, args, ts⟩ := c
    cases callee with
    | builtin b => exact builtinB_ok h
    | _ => cases h
  all_goals cases h
end Go.Alt
