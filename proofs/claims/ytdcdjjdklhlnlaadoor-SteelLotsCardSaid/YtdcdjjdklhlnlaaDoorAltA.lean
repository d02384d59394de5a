/- The abstract layer over the model's runs, group A: lemmas for the walks. No condition. -/
import Derived.Orders
import Derived.Below
import Derived.Laws.Rows
import Derived.Tactics
import Derived.Laws.CopyOwn
import Derived.Laws.StructEq
import Derived.Laws.MakeOwn
import Derived.Laws.Build

/- The abstract layer, part 1: values whose immutable slices are their contents, what represents them in memory, and how knowledge of memory grows. No condition. -/
namespace Go.Alt
open Go Go.RowKit

inductive Own where
  | shared
  | full
  | tip (b : Nat)

inductive V where
  | any
  | bool (b : Bool)
  | int (k : IntKind) (n : Int)
  | str (s : ByteArray)
  | fn (f : Fn) (first caps : List V)
  | nilFn
  | nilPtr
  | nilIf
  | con (v : Value)
  | ptr (b off : Nat)
  | pin (cs : List V)
  | msl (b off len size : Nat)
  | mp (b : Nat)
  | slc (o : Own) (es : List (List V))
  | agg (cs : List V)
  | tup (vs : List V)
  | opt (g : Bool) (v : V)
  | yld (b : Nat)

instance : Inhabited V := ⟨.any⟩

structure Tip where
  c : Nat
  n : Nat
  cap : Nat
  sz : Nat

structure Mem where
  imm : Nat → Nat → Option Value
  box : Nat → Option Nat
  tip : Nat → Option Tip
  mp : Nat → Option Nat
  dfr : Nat → Bool
  lp : Nat → Option (Nat × Loop)

/-- What is asked of the owner of a slice's spare room. -/
def OwnOk (μ : Mem) (o : Own) (c off len cap sz : Nat) : Prop :=
  match o with
  | .shared => True
  | .full => cap = len
  | .tip b => cap = len ∨ ∃ t, μ.tip b = some t ∧ len ≤ t.n ∧ (len = t.n → c = t.c ∧ off = 0 ∧ cap = t.cap ∧ t.sz = sz)

inductive VRep (μ : Mem) : V → Value → Prop where
  | any (x : Value) : VRep μ .any x
  | bool (b : Bool) : VRep μ (.bool b) (.bool b)
  | int (k : IntKind) (n : Int) : VRep μ (.int k n) (.int k n)
  | str (s : ByteArray) : VRep μ (.str s) (.string s)
  | fn (f : Fn) (fs cs : List V) (fs' cs' : List Value) (hf : fs'.length = fs.length) (hc : cs'.length = cs.length)
      (h1 : ∀ i, i < fs.length → VRep μ (fs.getD i .any) (fs'.getD i undef)) (h2 : ∀ i, i < cs.length → VRep μ (cs.getD i .any) (cs'.getD i undef)) :
      VRep μ (.fn f fs cs) (.func f fs'.toArray cs'.toArray)
  | nilFn : VRep μ .nilFn .nilFunc
  | nilPtr : VRep μ .nilPtr (.pointer none)
  | nilIf : VRep μ .nilIf .nilIface
  | con (v : Value) : VRep μ (.con v) v
  | ptr (b off c : Nat) (h : μ.box b = some c) : VRep μ (.ptr b off) (.pointer (some ⟨c, off, none⟩))
  | pin (cs : List V) (c off : Nat) (xs : Nat → Value) (hc : ∀ j, j < cs.length → μ.imm c (off + j) = some (xs j))
      (hr : ∀ j, j < cs.length → VRep μ (cs.getD j .any) (xs j)) : VRep μ (.pin cs) (.pointer (some ⟨c, off, none⟩))
  | msl (b off len size c cap : Nat) (h : μ.box b = some c) (hcap : len ≤ cap) : VRep μ (.msl b off len size) (.slice (some ⟨c, off, none⟩) len cap)
  | mp (b c : Nat) (h : μ.mp b = some c) : VRep μ (.mp b) (.map (some c))
  | slcNil (o : Own) : VRep μ (.slc o []) (.slice none 0 0)
  | slc (o : Own) (es : List (List V)) (c off len cap sz : Nat) (xs : Nat → Nat → Value) (hlen : es.length = len) (hcap : len ≤ cap)
      (hsz : ∀ i, i < len → (es.getD i []).length = sz) (hc : ∀ i j, i < len → j < sz → μ.imm c (off + i * sz + j) = some (xs i j))
      (hr : ∀ i j, i < len → j < sz → VRep μ ((es.getD i []).getD j .any) (xs i j)) (ho : OwnOk μ o c off len cap sz) :
      VRep μ (.slc o es) (.slice (some ⟨c, off, none⟩) len cap)
  | agg (cs : List V) (cs' : List Value) (hl : cs'.length = cs.length) (h : ∀ i, i < cs.length → VRep μ (cs.getD i .any) (cs'.getD i undef)) (h1 : ∀ x ∈ cs', x.oneCell' = true) :
      VRep μ (.agg cs) (.agg cs'.toArray)
  | tup (cs : List V) (cs' : List Value) (hl : cs'.length = cs.length) (h : ∀ i, i < cs.length → VRep μ (cs.getD i .any) (cs'.getD i undef)) :
      VRep μ (.tup cs) (.tuple cs'.toArray)
  | opt (g : Bool) (v : V) (x : Value) (h : g = true → VRep μ v x) (h0 : g = false → x = undef) : VRep μ (.opt g v) x
  | yld (b c : Nat) (L : Loop) (h : μ.lp b = some (c, L)) : VRep μ (.yld b) (.func (.yield c) #[] #[])

def VReps (μ : Mem) (cs : List V) (xs : List Value) : Prop :=
  xs.length = cs.length ∧ ∀ i, i < cs.length → VRep μ (cs.getD i .any) (xs.getD i undef)

/-- A prefix of the cells. -/
def PReps (μ : Mem) (cs : List V) (xs : List Value) : Prop :=
  cs.length ≤ xs.length ∧ ∀ i, i < cs.length → VRep μ (cs.getD i .any) (xs.getD i undef)

structure Ext (μ μ' : Mem) : Prop where
  imm : ∀ c o x, μ.imm c o = some x → μ'.imm c o = some x
  box : ∀ b c, μ.box b = some c → μ'.box b = some c
  tip : ∀ b t, μ.tip b = some t → ∃ t', μ'.tip b = some t' ∧ t.n ≤ t'.n ∧ (t'.n = t.n → t' = t)
  mp : ∀ b c, μ.mp b = some c → μ'.mp b = some c
  dfr : ∀ c, μ.dfr c = true → μ'.dfr c = true
  lp : ∀ b c, μ.lp b = some c → μ'.lp b = some c

theorem Ext.refl (μ : Mem) : Ext μ μ := ⟨fun _ _ _ h => h, fun _ _ h => h, fun _ t h => ⟨t, h, Nat.le_refl _, fun _ => rfl⟩, fun _ _ h => h, fun _ h => h, fun _ _ h => h⟩
theorem Ext.trans {a b c : Mem} (h : Ext a b) (k : Ext b c) : Ext a c :=
  ⟨fun _ _ _ e => k.imm _ _ _ (h.imm _ _ _ e), fun _ _ e => k.box _ _ (h.box _ _ e), fun i t e => by
    obtain ⟨t1, e1, l1, q1⟩ := h.tip i t e
    obtain ⟨t2, e2, l2, q2⟩ := k.tip i t1 e1
    refine ⟨t2, e2, by omega, fun hn => ?_⟩
    have : t1.n = t.n := by omega
    have h1 := q1 this
    subst h1
    exact q2 (by omega), fun _ _ e => k.mp _ _ (h.mp _ _ e), fun _ e => k.dfr _ (h.dfr _ e), fun _ _ e => k.lp _ _ (h.lp _ _ e)⟩

theorem OwnOk.mono {μ μ' : Mem} (e : Ext μ μ') {o : Own} {c off len cap sz : Nat} (h : OwnOk μ o c off len cap sz) : OwnOk μ' o c off len cap sz := by
  cases o with
  | shared => trivial
  | full => exact h
  | tip b =>
    rcases h with h | h
    · exact .inl h
    obtain ⟨t, ht, hle, hq⟩ := h
    obtain ⟨t', ht', hl', hq'⟩ := e.tip b t ht
    refine .inr ⟨t', ht', by omega, fun hn => ?_⟩
    have : t' = t := hq' (by omega)
    subst this
    exact hq hn

theorem VRep.mono {μ μ' : Mem} (e : Ext μ μ') {v : V} {x : Value} (h : VRep μ v x) : VRep μ' v x := by
  induction h with
  | any x => exact .any x
  | bool b => exact .bool b
  | int k n => exact .int k n
  | str s => exact .str s
  | fn f fs cs fs' cs' hf hc _ _ i1 i2 => exact .fn f fs cs fs' cs' hf hc i1 i2
  | nilFn => exact .nilFn
  | nilPtr => exact .nilPtr
  | nilIf => exact .nilIf
  | con v => exact .con v
  | ptr b off c h => exact .ptr b off c (e.box _ _ h)
  | pin cs c off xs hc _ i1 => exact .pin cs c off xs (fun j hj => e.imm _ _ _ (hc j hj)) i1
  | msl b off len size c cap h hcap => exact .msl b off len size c cap (e.box _ _ h) hcap
  | mp b c h => exact .mp b c (e.mp _ _ h)
  | slcNil o => exact .slcNil o
  | slc o es c off len cap sz xs hlen hcap hsz hc _ ho i1 =>
    exact .slc o es c off len cap sz xs hlen hcap hsz (fun i j hi hj => e.imm _ _ _ (hc i j hi hj)) i1 (ho.mono e)
  | agg cs cs' hl _ h1 ih => exact .agg cs cs' hl ih h1
  | tup cs cs' hl _ ih => exact .tup cs cs' hl ih
  | opt g v x _ h0 ih => exact .opt g v x ih h0
  | yld b c L h => exact .yld b c L (e.lp _ _ h)

theorem VReps.mono {μ μ' : Mem} (e : Ext μ μ') {cs : List V} {xs : List Value} (h : VReps μ cs xs) : VReps μ' cs xs :=
  ⟨h.1, fun i hi => (h.2 i hi).mono e⟩

theorem VReps.pre {μ : Mem} {cs : List V} {xs : List Value} (h : VReps μ cs xs) : PReps μ cs xs := ⟨Nat.le_of_eq h.1.symm, h.2⟩
theorem VReps.pre_append {μ : Mem} {cs : List V} {xs : List Value} (h : VReps μ cs xs) (ys : List Value) : PReps μ cs (xs ++ ys) := by
  refine ⟨by simp [h.1], fun i hi => ?_⟩
  have h1 := h.2 i hi
  have hx : i < xs.length := by have := h.1; omega
  simpa [List.getD, List.getElem?_append_left hx] using h1
theorem PReps.mono {μ μ' : Mem} (e : Ext μ μ') {cs : List V} {xs : List Value} (h : PReps μ cs xs) : PReps μ' cs xs :=
  ⟨h.1, fun i hi => (h.2 i hi).mono e⟩
theorem PReps.set {μ : Mem} {cs : List V} {xs : List Value} (h : PReps μ cs xs) {v : V} {x : Value} (hv : VRep μ v x) (i : Nat) : PReps μ (cs.set i v) (xs.set i x) := by
  refine ⟨by simp [h.1], fun j hj => ?_⟩
  have hj' : j < cs.length := by simpa using hj
  have h1 := h.2 j hj'
  by_cases e : i = j
  · subst e
    have : i < xs.length := by have := h.1; omega
    simpa [List.getD, List.getElem?_set, hj', this] using hv
  · simpa [List.getD, List.getElem?_set, e] using h1
theorem PReps.take {μ : Mem} {cs : List V} {xs : List Value} (h : PReps μ cs xs) : VReps μ cs (xs.take cs.length) := by
  refine ⟨by simp [h.1], fun i hi => ?_⟩
  have h1 := h.2 i hi
  simpa [List.getD, List.getElem?_take, hi] using h1

theorem VReps.nil_ {μ : Mem} : VReps μ [] [] := ⟨rfl, fun i h => absurd h (Nat.not_lt_zero i)⟩
theorem VReps.cons_ {μ : Mem} {v : V} {x : Value} {vs : List V} {xs : List Value} (h : VRep μ v x) (hs : VReps μ vs xs) : VReps μ (v :: vs) (x :: xs) :=
  ⟨by simp [hs.1], fun i hi => by
    cases i with
    | zero => simpa using h
    | succ i => simpa using hs.2 i (by simpa using hi)⟩
theorem VReps.of_cons {μ : Mem} {v : V} {vs : List V} {ys : List Value} (h : VReps μ (v :: vs) ys) : ∃ x xs, ys = x :: xs ∧ VRep μ v x ∧ VReps μ vs xs := by
  obtain ⟨hl, hr⟩ := h
  cases ys with
  | nil => simp at hl
  | cons x xs =>
    refine ⟨x, xs, rfl, by simpa using hr 0 (by simp), by simpa using hl, fun i hi => ?_⟩
    simpa using hr (i + 1) (by simpa using hi)
theorem VReps.of_nil {μ : Mem} {ys : List Value} (h : VReps μ [] ys) : ys = [] := List.eq_nil_of_length_eq_zero (by simpa using h.1)
theorem VReps.append {μ : Mem} {a b : List V} {x y : List Value} (h : VReps μ a x) (k : VReps μ b y) : VReps μ (a ++ b) (x ++ y) := by
  induction a generalizing x with
  | nil => rw [h.of_nil]; exact k
  | cons v vs ih =>
    obtain ⟨z, zs, rfl, h1, h2⟩ := h.of_cons
    exact VReps.cons_ h1 (ih h2)
theorem VReps.get {μ : Mem} {cs : List V} {xs : List Value} (h : VReps μ cs xs) {i : Nat} {v : V} (hi : cs[i]? = some v) : ∃ x, xs[i]? = some x ∧ VRep μ v x := by
  obtain ⟨hl, hr⟩ := h
  have hlt : i < cs.length := (List.getElem?_eq_some_iff.1 hi).1
  have h1 := hr i hlt
  have hx : xs[i]? = some (xs[i]'(by omega)) := List.getElem?_eq_getElem (by omega)
  refine ⟨_, hx, ?_⟩
  simpa [List.getD, hi, hx] using h1
theorem VReps.set {μ : Mem} {cs : List V} {xs : List Value} (h : VReps μ cs xs) {v : V} {x : Value} (hv : VRep μ v x) (i : Nat) : VReps μ (cs.set i v) (xs.set i x) := by
  refine ⟨by simp [h.1], fun j hj => ?_⟩
  have hj' : j < cs.length := by simpa using hj
  have h1 := h.2 j hj'
  by_cases e : i = j
  · subst e
    have : i < xs.length := by have := h.1; omega
    simpa [List.getD, List.getElem?_set, hj', this] using hv
  · simpa [List.getD, List.getElem?_set, e] using h1
theorem VReps.take {μ : Mem} {cs : List V} {xs : List Value} (h : VReps μ cs xs) (n : Nat) : VReps μ (cs.take n) (xs.take n) := by
  refine ⟨by simp [h.1], fun j hj => ?_⟩
  have hj' : j < n ∧ j < cs.length := Nat.lt_min.1 (by simpa using hj)
  have h1 := h.2 j hj'.2
  simpa [List.getD, List.getElem?_take, hj'.1] using h1
theorem VReps.drop {μ : Mem} {cs : List V} {xs : List Value} (h : VReps μ cs xs) (n : Nat) : VReps μ (cs.drop n) (xs.drop n) := by
  refine ⟨by simp [h.1], fun j hj => ?_⟩
  have h1 := h.2 (n + j) (by simp at hj; omega)
  simpa [List.getD, List.getElem?_drop] using h1

/-- A value that names no box and no row from number n on. -/
def OwnLow (n : Nat) : Own → Prop
  | .tip b => b < n
  | _ => True
inductive Low (n : Nat) : V → Prop where
  | any : Low n .any
  | bool (b : Bool) : Low n (.bool b)
  | int (k : IntKind) (i : Int) : Low n (.int k i)
  | str (s : ByteArray) : Low n (.str s)
  | fn (f : Fn) (fs cs : List V) (h1 : ∀ v ∈ fs, Low n v) (h2 : ∀ v ∈ cs, Low n v) : Low n (.fn f fs cs)
  | nilFn : Low n .nilFn
  | nilPtr : Low n .nilPtr
  | nilIf : Low n .nilIf
  | con (v : Value) : Low n (.con v)
  | ptr (b off : Nat) (h : b < n) : Low n (.ptr b off)
  | pin (cs : List V) (h : ∀ v ∈ cs, Low n v) : Low n (.pin cs)
  | msl (b off len size : Nat) (h : b < n) : Low n (.msl b off len size)
  | mp (b : Nat) (h : b < n) : Low n (.mp b)
  | slc (o : Own) (es : List (List V)) (ho : OwnLow n o) (h : ∀ c ∈ es, ∀ v ∈ c, Low n v) : Low n (.slc o es)
  | agg (cs : List V) (h : ∀ v ∈ cs, Low n v) : Low n (.agg cs)
  | tup (cs : List V) (h : ∀ v ∈ cs, Low n v) : Low n (.tup cs)
  | opt (g : Bool) (v : V) (h : g = true → Low n v) : Low n (.opt g v)
  | yld (b : Nat) (h : b < n) : Low n (.yld b)

theorem OwnLow.mono {n m : Nat} (h : n ≤ m) {o : Own} (k : OwnLow n o) : OwnLow m o := by
  cases o <;> simp_all [OwnLow]
  omega
theorem Low.mono {n m : Nat} (h : n ≤ m) {v : V} (k : Low n v) : Low m v := by
  induction k with
  | any => exact .any
  | bool b => exact .bool b
  | int k i => exact .int k i
  | str s => exact .str s
  | fn f fs cs _ _ i1 i2 => exact .fn f fs cs i1 i2
  | nilFn => exact .nilFn
  | nilPtr => exact .nilPtr
  | nilIf => exact .nilIf
  | con v => exact .con v
  | ptr b off hb => exact .ptr b off (by omega)
  | pin cs _ ih => exact .pin cs ih
  | msl b off len size hb => exact .msl b off len size (by omega)
  | mp b hb => exact .mp b (by omega)
  | slc o es ho _ ih => exact .slc o es (ho.mono h) ih
  | agg cs _ ih => exact .agg cs ih
  | tup cs _ ih => exact .tup cs ih
  | opt g v _ ih => exact .opt g v ih
  | yld b hb => exact .yld b (by omega)

/-- The numbers that are known of lie below n. -/
def Dom (n0 : Nat) (μ0 : Mem) : Prop := (∀ b c, μ0.box b = some c → b < n0) ∧ (∀ b t, μ0.tip b = some t → b < n0) ∧ (∀ b c, μ0.mp b = some c → b < n0) ∧ ∀ b c, μ0.lp b = some c → b < n0

theorem mem_getD {cs : List V} {v : V} (h : v ∈ cs) : ∃ i, i < cs.length ∧ cs.getD i .any = v := by
  obtain ⟨i, hi, rfl⟩ := List.getElem_of_mem h
  exact ⟨i, hi, by simp [List.getD, hi]⟩
theorem mem_getD2 {es : List (List V)} {c : List V} (h : c ∈ es) : ∃ i, i < es.length ∧ es.getD i [] = c := by
  obtain ⟨i, hi, rfl⟩ := List.getElem_of_mem h
  exact ⟨i, hi, by simp [List.getD, hi]⟩

def Mem.low (n : Nat) (μ : Mem) : Mem := ⟨μ.imm, fun b => if b < n then μ.box b else none, fun b => if b < n then μ.tip b else none, fun b => if b < n then μ.mp b else none, μ.dfr, fun b => if b < n then μ.lp b else none⟩

theorem getD_mem {cs : List V} {i : Nat} (h : i < cs.length) : cs.getD i .any ∈ cs := by
  simp only [List.getD, List.getElem?_eq_getElem h, Option.getD_some]
  exact List.getElem_mem h
theorem getD_mem2 {es : List (List V)} {i : Nat} (h : i < es.length) : es.getD i [] ∈ es := by
  simp only [List.getD, List.getElem?_eq_getElem h, Option.getD_some]
  exact List.getElem_mem h

theorem VRep.low {μ : Mem} {n : Nat} {v : V} {x : Value} (h : VRep μ v x) (k : Low n v) : VRep (μ.low n) v x := by
  induction h with
  | any x => exact .any x
  | bool b => exact .bool b
  | int k' i => exact .int k' i
  | str s => exact .str s
  | fn f fs cs fs' cs' hf hc _ _ i1 i2 => cases k with
    | fn _ _ _ k1 k2 => exact .fn f fs cs fs' cs' hf hc (fun i hi => i1 i hi (k1 _ (getD_mem hi))) (fun i hi => i2 i hi (k2 _ (getD_mem hi)))
  | nilFn => exact .nilFn
  | nilPtr => exact .nilPtr
  | nilIf => exact .nilIf
  | con v => exact .con v
  | ptr b off c h => cases k with
    | ptr _ _ hb => exact .ptr b off c (by simp [Mem.low, hb, h])
  | pin cs c off xs hc _ i1 => cases k with
    | pin _ k1 => exact .pin cs c off xs hc (fun i hi => i1 i hi (k1 _ (getD_mem hi)))
  | msl b off len size c cap h hcap => cases k with
    | msl _ _ _ _ hb => exact .msl b off len size c cap (by simp [Mem.low, hb, h]) hcap
  | mp b c h => cases k with
    | mp _ hb => exact .mp b c (by simp [Mem.low, hb, h])
  | slcNil o => exact .slcNil o
  | slc o es c off len cap sz xs hlen hcap hsz hc _ ho i1 => cases k with
    | slc _ _ k0 k1 =>
      refine .slc o es c off len cap sz xs hlen hcap hsz hc (fun i j hi hj => i1 i j hi hj ?_) ?_
      · have hi' : i < es.length := by omega
        exact k1 _ (getD_mem2 hi') _ (getD_mem (by rw [hsz i hi]; exact hj))
      · cases o with
        | shared => trivial
        | full => exact ho
        | tip b =>
          rcases ho with h | ⟨t, h1, h2⟩
          · exact .inl h
          · have hb : b < n := k0
            exact .inr ⟨t, by simp [Mem.low, hb, h1], h2⟩
  | agg cs cs' hl _ h1 ih => cases k with
    | agg _ k1 => exact .agg cs cs' hl (fun i hi => ih i hi (k1 _ (getD_mem hi))) h1
  | tup cs cs' hl _ ih => cases k with
    | tup _ k1 => exact .tup cs cs' hl (fun i hi => ih i hi (k1 _ (getD_mem hi)))
  | opt g v x _ h0 ih => cases k with
    | opt _ _ k1 => exact .opt g v x (fun q => ih q (k1 q)) h0
  | yld b c L h => cases k with
    | yld _ hb => exact .yld b c L (by simp [Mem.low, hb, h])

/-- Without a block of deferred calls. -/
def Mem.dropDfr (μ : Mem) (c : Nat) : Mem := { μ with dfr := fun i => if i = c then false else μ.dfr i }
theorem VRep.dropDfr {μ : Mem} {c0 : Nat} {v : V} {x : Value} (h : VRep μ v x) : VRep (μ.dropDfr c0) v x := by
  induction h with
  | any x => exact .any x
  | bool b => exact .bool b
  | int k n => exact .int k n
  | str s => exact .str s
  | fn f fs cs fs' cs' hf hc _ _ i1 i2 => exact .fn f fs cs fs' cs' hf hc i1 i2
  | nilFn => exact .nilFn
  | nilPtr => exact .nilPtr
  | nilIf => exact .nilIf
  | con v => exact .con v
  | ptr b off c h => exact .ptr b off c h
  | pin cs c off xs hc _ i1 => exact .pin cs c off xs hc i1
  | msl b off len size c cap h hcap => exact .msl b off len size c cap h hcap
  | mp b c h => exact .mp b c h
  | slcNil o => exact .slcNil o
  | slc o es c off len cap sz xs hlen hcap hsz hc _ ho i1 => exact .slc o es c off len cap sz xs hlen hcap hsz hc i1 (by cases o <;> exact ho)
  | agg cs cs' hl _ h1 ih => exact .agg cs cs' hl ih h1
  | tup cs cs' hl _ ih => exact .tup cs cs' hl ih
  | opt g v x _ h0 ih => exact .opt g v x ih h0
  | yld b c L h => exact .yld b c L h
theorem Ext.dropDfr {μ0 μ : Mem} (h : Ext μ0 μ) {c : Nat} (hc : μ0.dfr c = false) : Ext μ0 (μ.dropDfr c) :=
  ⟨h.imm, h.box, h.tip, h.mp, fun i hi => by
    simp only [Mem.dropDfr]
    split
    · rename_i e; subst e; rw [hc] at hi; cases hi
    · exact h.dfr i hi, h.lp⟩

end Go.Alt

/- The abstract layer, part 2: the abstract heap, how it stands to a world, and the primitive steps on it. No condition. -/
namespace Go.Alt
open Go Go.RowKit

inductive ABlock where
  | box (cs : List V)
  | tip (n : Nat)
  | map (es : List (V × V))
  | lp (st : LoopState) (pend : Option Code)

structure AHeap where
  get : Nat → Option ABlock
  n : Nat

def AHeap.new (H : AHeap) (id : Nat) (blk : ABlock) : AHeap := ⟨fun i => if i = id then some blk else H.get i, max H.n (id + 1)⟩
def AHeap.push (H : AHeap) (blk : ABlock) : AHeap := ⟨fun i => if i = H.n then some blk else H.get i, H.n + 1⟩
def ABlock.set (off : Nat) (v : V) : ABlock → ABlock
  | .box cs => .box (cs.set off v)
  | b => b
def AHeap.set (H : AHeap) (id off : Nat) (v : V) : AHeap := ⟨fun i => if i = id then (H.get i).map (ABlock.set off v) else H.get i, H.n⟩
def AHeap.mset (H : AHeap) (id : Nat) (es : List (V × V)) : AHeap := ⟨fun i => if i = id then some (.map es) else H.get i, H.n⟩
def AHeap.lset (H : AHeap) (id : Nat) (st : LoopState) (p : Option Code) : AHeap := ⟨fun i => if i = id then some (.lp st p) else H.get i, H.n⟩
def AHeap.tip (H : AHeap) (id n : Nat) : AHeap := ⟨fun i => if i = id then some (.tip n) else H.get i, H.n⟩

theorem AHeap.new_n (H : AHeap) (blk : ABlock) : H.new H.n blk = H.push blk := by
  simp only [AHeap.new, AHeap.push]
  congr 1
  omega
@[simp] theorem AHeap.n_push (H : AHeap) (blk : ABlock) : (H.push blk).n = H.n + 1 := rfl
@[simp] theorem AHeap.n_set (H : AHeap) (id off : Nat) (v : V) : (H.set id off v).n = H.n := rfl
@[simp] theorem AHeap.n_mset (H : AHeap) (id : Nat) (es : List (V × V)) : (H.mset id es).n = H.n := rfl
@[simp] theorem AHeap.n_lset (H : AHeap) (id : Nat) (st : LoopState) (p : Option Code) : (H.lset id st p).n = H.n := rfl
@[simp] theorem AHeap.n_tip (H : AHeap) (id n : Nat) : (H.tip id n).n = H.n := rfl
theorem AHeap.get_push (H : AHeap) (blk : ABlock) (i : Nat) : (H.push blk).get i = if i = H.n then some blk else H.get i := rfl
theorem AHeap.get_set (H : AHeap) (id off : Nat) (v : V) (i : Nat) : (H.set id off v).get i = if i = id then (H.get i).map (ABlock.set off v) else H.get i := rfl
theorem AHeap.get_mset (H : AHeap) (id : Nat) (es : List (V × V)) (i : Nat) : (H.mset id es).get i = if i = id then some (.map es) else H.get i := rfl
theorem AHeap.get_lset (H : AHeap) (id : Nat) (st : LoopState) (p : Option Code) (i : Nat) : (H.lset id st p).get i = if i = id then some (.lp st p) else H.get i := rfl
theorem AHeap.get_tip (H : AHeap) (id n i : Nat) : (H.tip id n).get i = if i = id then some (.tip n) else H.get i := rfl
theorem AHeap.set_push (H : AHeap) (blk : ABlock) (id off : Nat) (v : V) : (H.push blk).set id off v = if id = H.n then H.push (blk.set off v) else (H.set id off v).push blk := by
  split
  · rename_i h
    subst h
    simp only [AHeap.set, AHeap.push]
    congr 1
    funext i
    split <;> rfl
  · rename_i h
    simp only [AHeap.set, AHeap.push]
    congr 1
    funext i
    by_cases h1 : i = id
    · subst h1
      simp [h]
    · by_cases h2 : i = H.n <;> simp [h1, h2]
      intro h3; omega
theorem AHeap.tip_push (H : AHeap) (blk : ABlock) (id m : Nat) : (H.push blk).tip id m = if id = H.n then H.push (.tip m) else (H.tip id m).push blk := by
  split
  · rename_i h
    subst h
    simp only [AHeap.tip, AHeap.push]
    congr 1
    funext i
    split <;> rfl
  · rename_i h
    simp only [AHeap.tip, AHeap.push]
    congr 1
    funext i
    by_cases h1 : i = id
    · subst h1
      simp [h]
    · by_cases h2 : i = H.n <;> simp [h1, h2]
      intro h3; omega

theorem AHeap.mset_push (H : AHeap) (blk : ABlock) (id : Nat) (es : List (V × V)) : (H.push blk).mset id es = if id = H.n then H.push (.map es) else (H.mset id es).push blk := by
  split
  · rename_i h
    subst h
    simp only [AHeap.mset, AHeap.push]
    congr 1
    funext i
    split <;> rfl
  · rename_i h
    simp only [AHeap.mset, AHeap.push]
    congr 1
    funext i
    by_cases h1 : i = id
    · subst h1
      simp [h]
    · by_cases h2 : i = H.n <;> simp [h1, h2]
      intro h3; omega

/-- The entries of a map. -/
def MReps (μ : Mem) : List (V × V) → List MapEntry → Prop
  | [], [] => True
  | (k, v) :: es, x :: xs => VRep μ k x.key ∧ VRep μ v x.val ∧ MReps μ es xs
  | _, _ => False
theorem MReps.mono {μ μ' : Mem} (e : Ext μ μ') : ∀ {es : List (V × V)} {xs : List MapEntry}, MReps μ es xs → MReps μ' es xs
  | [], [], _ => trivial
  | (_, _) :: _, _ :: _, h => ⟨h.1.mono e, h.2.1.mono e, MReps.mono e h.2.2⟩
  | [], _ :: _, h => h.elim
  | _ :: _, [], h => h.elim
theorem MReps.dropDfr {μ : Mem} {c : Nat} : ∀ {es : List (V × V)} {xs : List MapEntry}, MReps μ es xs → MReps (μ.dropDfr c) es xs
  | [], [], _ => trivial
  | (_, _) :: _, _ :: _, h => ⟨h.1.dropDfr, h.2.1.dropDfr, MReps.dropDfr h.2.2⟩
  | [], _ :: _, h => h.elim
  | _ :: _, [], h => h.elim
def LowM (n : Nat) (es : List (V × V)) : Prop := ∀ p ∈ es, Low n p.1 ∧ Low n p.2
theorem MReps.low {μ : Mem} {n : Nat} : ∀ {es : List (V × V)} {xs : List MapEntry}, MReps μ es xs → LowM n es → MReps (μ.low n) es xs
  | [], [], _, _ => trivial
  | (k, v) :: es, _ :: _, h, l => ⟨h.1.low (l (k, v) (by simp)).1, h.2.1.low (l (k, v) (by simp)).2, MReps.low h.2.2 fun p hp => l p (by simp [hp])⟩
  | [], _ :: _, h, _ => h.elim
  | _ :: _, [], h, _ => h.elim

/-- Where a piece of work began: the world, and which cells were known to stay. -/
structure Base where
  w : World
  I : Nat → Nat → Option Value
structure Sim (w0 : Base) (B : Nat) (μ : Mem) (H : AHeap) (w : World) : Prop where
  below : Below B w0.w w
  old : ∀ c o x, c < B → μ.imm c o = some x → w0.I c o = some x
  base : B ≤ w.heap.size
  imm : ∀ c o x, μ.imm c o = some x → w.cell? ⟨c, o, none⟩ = some x ∧ x.oneCell' = true
  fresh : ∀ i, H.n ≤ i → H.get i = none
  box : ∀ b c, μ.box b = some c → ∃ cs vs e, H.get b = some (.box cs) ∧ w.heap[c]? = some (.cells (List.toArray vs) e (0, 0)) ∧ PReps μ cs vs ∧ B ≤ c ∧ (∀ o, μ.imm c o = none) ∧ ∀ x ∈ vs, x.oneCell' = true
  inj : ∀ b b' c, μ.box b = some c → μ.box b' = some c → b = b'
  tip : ∀ b t, μ.tip b = some t → H.get b = some (.tip t.n) ∧ B ≤ t.c ∧ (t.n ≤ t.cap ∧ 0 < t.n) ∧ (∀ o, t.n * t.sz ≤ o → μ.imm t.c o = none) ∧ (∀ b', μ.box b' ≠ some t.c) ∧
    ∃ vs e, w.heap[t.c]? = some (.cells vs e (0, 0)) ∧ vs.size = t.cap * t.sz
  tinj : ∀ b b' t t', μ.tip b = some t → μ.tip b' = some t' → t.c = t'.c → b = b'
  mp : ∀ b c, μ.mp b = some c → ∃ es xs k, H.get b = some (.map es) ∧ w.heap[c]? = some (.map xs k) ∧ MReps μ es xs.toList ∧ B ≤ c
  minj : ∀ b b' c, μ.mp b = some c → μ.mp b' = some c → b = b'
  dfr : ∀ c, μ.dfr c = true → w.heap[c]? = some (.deferred (some [])) ∧ B ≤ c
  lp : ∀ b c L, μ.lp b = some (c, L) → ∃ st p, H.get b = some (.lp st p) ∧ w.heap[c]? = some (.loop { L with state := st, pending := p }) ∧ B ≤ c
  linj : ∀ b b' c L L', μ.lp b = some (c, L) → μ.lp b' = some (c, L') → b = b'

section
variable {w0 : Base} {w : World} {B : Nat} {μ : Mem} {H : AHeap}

theorem Sim.box_lt (h : Sim w0 B μ H w) {b c : Nat} (hb : μ.box b = some c) : b < H.n := by
  obtain ⟨cs, vs, e, h1, _⟩ := h.box b c hb
  rcases Nat.lt_or_ge b H.n with hlt | hge
  · exact hlt
  · rw [h.fresh b hge] at h1; cases h1
theorem Sim.tip_lt (h : Sim w0 B μ H w) {b : Nat} {t : Tip} (hb : μ.tip b = some t) : b < H.n := by
  obtain ⟨h1, _⟩ := h.tip b t hb
  rcases Nat.lt_or_ge b H.n with hlt | hge
  · exact hlt
  · rw [h.fresh b hge] at h1; cases h1
theorem Sim.box_block_lt (h : Sim w0 B μ H w) {b c : Nat} (hb : μ.box b = some c) : c < w.heap.size := by
  obtain ⟨cs, vs, e, _, h1, _⟩ := h.box b c hb
  rcases Nat.lt_or_ge c w.heap.size with hlt | hge
  · exact hlt
  · rw [Array.getElem?_eq_none hge] at h1; cases h1
theorem Sim.tip_block_lt (h : Sim w0 B μ H w) {b : Nat} {t : Tip} (hb : μ.tip b = some t) : t.c < w.heap.size := by
  obtain ⟨_, _, _, _, _, vs, e, h1, _⟩ := h.tip b t hb
  rcases Nat.lt_or_ge t.c w.heap.size with hlt | hge
  · exact hlt
  · rw [Array.getElem?_eq_none hge] at h1; cases h1
theorem Sim.mp_lt (h : Sim w0 B μ H w) {b c : Nat} (hb : μ.mp b = some c) : b < H.n := by
  obtain ⟨es, xs, k, h1, _⟩ := h.mp b c hb
  rcases Nat.lt_or_ge b H.n with hlt | hge
  · exact hlt
  · rw [h.fresh b hge] at h1; cases h1
theorem Sim.mp_block_lt (h : Sim w0 B μ H w) {b c : Nat} (hb : μ.mp b = some c) : c < w.heap.size := by
  obtain ⟨es, xs, k, _, h1, _⟩ := h.mp b c hb
  rcases Nat.lt_or_ge c w.heap.size with hlt | hge
  · exact hlt
  · rw [Array.getElem?_eq_none hge] at h1; cases h1
theorem Sim.lp_lt (h : Sim w0 B μ H w) {b : Nat} {c : Nat × Loop} (hb : μ.lp b = some c) : b < H.n := by
  obtain ⟨st, p, h1, _⟩ := h.lp b c.1 c.2 hb
  rcases Nat.lt_or_ge b H.n with hlt | hge
  · exact hlt
  · rw [h.fresh b hge] at h1; cases h1
theorem Sim.lp_block_lt (h : Sim w0 B μ H w) {b c : Nat} {L : Loop} (hb : μ.lp b = some (c, L)) : c < w.heap.size := by
  obtain ⟨st, p, _, h1, _⟩ := h.lp b c L hb
  rcases Nat.lt_or_ge c w.heap.size with hlt | hge
  · exact hlt
  · rw [Array.getElem?_eq_none hge] at h1; cases h1
theorem Sim.dfr_block_lt (h : Sim w0 B μ H w) {c : Nat} (hb : μ.dfr c = true) : c < w.heap.size := by
  obtain ⟨h1, _⟩ := h.dfr c hb
  rcases Nat.lt_or_ge c w.heap.size with hlt | hge
  · exact hlt
  · rw [Array.getElem?_eq_none hge] at h1; cases h1
theorem Sim.imm_block_lt (h : Sim w0 B μ H w) {c o : Nat} {x : Value} (hb : μ.imm c o = some x) : c < w.heap.size :=
  block_lt_of_cell (h.imm c o x hb).1
theorem Sim.imm_new (h : Sim w0 B μ H w) (o : Nat) {c : Nat} (hc : w.heap.size ≤ c) : μ.imm c o = none := by
  cases hx : μ.imm c o with
  | none => rfl
  | some x => have := h.imm_block_lt hx; omega

/-- A draw changes nothing. -/
theorem Sim.drew (h : Sim w0 B μ H w) : Sim w0 B μ H w.drew :=
  ⟨h.below.drew, h.old, h.base, h.imm, h.fresh, h.box, h.inj, h.tip, h.tinj, h.mp, h.minj, h.dfr, h.lp, h.linj⟩

/-- A new block that nobody looks at. -/
theorem Sim.alloc (h : Sim w0 B μ H w) (o : Obj) : Sim w0 B μ H (w.alloc o) where
  below := h.below.alloc h.base o
  old := h.old
  base := by have := h.base; simp; omega
  imm := fun c o' x hx => by
    rw [World.cell?_alloc_lt w o _ (h.imm_block_lt hx)]
    exact h.imm c o' x hx
  fresh := h.fresh
  box := fun b c hb => by
    obtain ⟨cs, vs, e, h1, h2, h3⟩ := h.box b c hb
    exact ⟨cs, vs, e, h1, (Below.heap_alloc w o c (h.box_block_lt hb)).trans h2, h3⟩
  inj := h.inj
  tip := fun b t hb => by
    obtain ⟨h1, h2, h3, h4, h5, vs, e, h6, h7⟩ := h.tip b t hb
    exact ⟨h1, h2, h3, h4, h5, vs, e, (Below.heap_alloc w o t.c (h.tip_block_lt hb)).trans h6, h7⟩
  tinj := h.tinj
  mp := fun b c hb => by
    obtain ⟨es, xs, k, h1, h2, h3⟩ := h.mp b c hb
    exact ⟨es, xs, k, h1, (Below.heap_alloc w o c (h.mp_block_lt hb)).trans h2, h3⟩
  minj := h.minj
  dfr := fun c hc => ⟨(Below.heap_alloc w o c (h.dfr_block_lt hc)).trans (h.dfr c hc).1, (h.dfr c hc).2⟩
  lp := fun b c L hb => by
    obtain ⟨st, p, h1, h2, h3⟩ := h.lp b c L hb
    exact ⟨st, p, h1, (Below.heap_alloc w o c (h.lp_block_lt hb)).trans h2, h3⟩
  linj := h.linj

/-- A new box. -/
def Mem.newBox (μ : Mem) (id c : Nat) : Mem := ⟨μ.imm, fun i => if i = id then some c else μ.box i, μ.tip, μ.mp, μ.dfr, μ.lp⟩

theorem Ext.newBox {μ : Mem} {id c : Nat} (hid : μ.box id = none) : Ext μ (μ.newBox id c) :=
  ⟨fun _ _ _ h => h, fun b c' h => by
    simp only [Mem.newBox]
    rw [if_neg (fun e => by subst e; rw [hid] at h; cases h)]
    exact h, fun b t h => ⟨t, h, Nat.le_refl _, fun _ => rfl⟩, fun _ _ h => h, fun _ h => h, fun _ _ h => h⟩

theorem Sim.newBox (h : Sim w0 B μ H w) {id : Nat} (hid : H.get id = none) (cs : List V) (vs : List Value) (e : TypeId) (hr : PReps μ cs vs) (h1 : ∀ x ∈ vs, x.oneCell' = true) :
    Ext μ (μ.newBox id w.heap.size) ∧ Sim w0 B (μ.newBox id w.heap.size) (H.new id (.box cs)) (w.alloc (.cells vs.toArray e)) := by
  have hno : μ.box id = none := by
    cases hx : μ.box id with
    | none => rfl
    | some c => obtain ⟨cs, vs, e, h1, _⟩ := h.box id c hx; rw [hid] at h1; cases h1
  have hnt : μ.tip id = none := by
    cases hx : μ.tip id with
    | none => rfl
    | some t => obtain ⟨h1, _⟩ := h.tip id t hx; rw [hid] at h1; cases h1
  have he : Ext μ (μ.newBox id w.heap.size) := Ext.newBox hno
  have ha := h.alloc (.cells vs.toArray e)
  refine ⟨he, ha.below, ha.old, ha.base, ha.imm, ?_, ?_, ?_, ?_, h.tinj, ?_, h.minj, ha.dfr, ?_, h.linj⟩
  · intro i hi
    simp only [AHeap.new] at hi ⊢
    rw [if_neg (by omega)]
    exact h.fresh i (by omega)
  · intro b c hb
    by_cases hbi : b = id
    · subst hbi
      simp only [Mem.newBox, if_true] at hb
      injection hb with hb
      subst hb
      exact ⟨cs, vs, e, by simp [AHeap.new], heap_alloc_new w _, hr.mono he, h.base, fun o => h.imm_new o (Nat.le_refl _), h1⟩
    · simp only [Mem.newBox, if_neg hbi] at hb
      obtain ⟨cs', vs', e', h1, h2, h3, h4, h5⟩ := ha.box b c hb
      exact ⟨cs', vs', e', by simp [AHeap.new, hbi, h1], h2, h3.mono he, h4, h5⟩
  · intro b b' c hb hb'
    simp only [Mem.newBox] at hb hb'
    by_cases h1 : b = id <;> by_cases h2 : b' = id <;> simp only [h1, h2, if_true, if_false] at hb hb'
    · rw [h1, h2]
    · have := h.box_block_lt hb'; injection hb with hb; omega
    · have := h.box_block_lt hb; injection hb' with hb'; omega
    · exact h.inj b b' c hb hb'
  · intro b t hb
    have hb' : μ.tip b = some t := hb
    obtain ⟨h1, h2, h3, h4, h5, h6⟩ := ha.tip b t hb'
    have hbi : b ≠ id := by rintro rfl; rw [hnt] at hb'; cases hb'
    refine ⟨by simp [AHeap.new, hbi, h1], h2, h3, h4, fun b' hq => ?_, h6⟩
    simp only [Mem.newBox] at hq
    split at hq
    · injection hq with hq; have := h.tip_block_lt hb'; omega
    · exact h5 b' hq
  · intro b c hb
    obtain ⟨es, xs, k, h1, h2, h3, h4⟩ := ha.mp b c hb
    have hne : b ≠ id := by rintro rfl; rw [hid] at h1; cases h1
    exact ⟨es, xs, k, by simp [AHeap.new, hne, h1], h2, h3.mono he, h4⟩
  · intro b c L hb
    obtain ⟨st, p, h1, h2⟩ := ha.lp b c L hb
    have hne : b ≠ id := by rintro rfl; rw [hid] at h1; cases h1
    exact ⟨st, p, by simp [AHeap.new, hne, h1], h2⟩

/-- A store into a cell of a box. -/
theorem Sim.setBox (h : Sim w0 B μ H w) {b c off : Nat} (hb : μ.box b = some c) {v : V} {x : Value} (hv : VRep μ v x) (hx1 : x.oneCell' = true) :
    Sim w0 B μ (H.set b off v) (w.setCell ⟨c, off, none⟩ x) := by
  obtain ⟨cs0, vs0, e0, g1, g2, g3, g4, g5, g6⟩ := h.box b c hb
  refine ⟨h.below.setCell g4 x, h.old, by have := h.base; simpa using this, ?_, ?_, ?_, h.inj, ?_, h.tinj, ?_, h.minj, ?_, ?_, h.linj⟩
  · intro c' o' x' hx
    rw [World.cell?_setCell_other]
    · exact h.imm c' o' x' hx
    · intro e
      injection e with e1 e2
      subst e1
      rw [g5 o'] at hx
      cases hx
  · intro i hi
    simp only [AHeap.set] at hi ⊢
    split
    · rename_i e
      subst e
      rw [h.fresh i hi]; rfl
    · exact h.fresh i hi
  · intro b' c' hb'
    by_cases e : b' = b
    · subst e
      rw [hb] at hb'
      injection hb' with hb'
      subst hb'
      refine ⟨cs0.set off v, vs0.set off x, e0, by simp [AHeap.set, g1, ABlock.set], ?_, g3.set hv off, g4, g5, fun y hy => ?_⟩
      · rw [heap_setCell_same w c off _ e0 x g2]
        simp
      · rcases List.mem_or_eq_of_mem_set hy with hy | hy
        · exact g6 y hy
        · subst hy; exact hx1
    · obtain ⟨cs', vs', e', h1, h2, h3⟩ := h.box b' c' hb'
      refine ⟨cs', vs', e', by simp [AHeap.set, e, h1], ?_, h3⟩
      rw [heap_setCell_other]
      · exact h2
      · rintro rfl
        exact e (h.inj _ _ _ hb' hb)
  · intro b' t hb'
    obtain ⟨h1, h2, h3, h4, h5, vs, e, h6, h7⟩ := h.tip b' t hb'
    have hne : b' ≠ b := by rintro rfl; rw [g1] at h1; cases h1
    refine ⟨by simp [AHeap.set, hne, h1], h2, h3, h4, h5, vs, e, ?_, h7⟩
    rw [heap_setCell_other]
    · exact h6
    · rintro e'
      exact h5 b (by rw [hb]; exact congrArg some e'.symm)
  · intro b' c' hb'
    obtain ⟨es, xs, k, h1, h2, h3, h4⟩ := h.mp b' c' hb'
    have hne : b' ≠ b := by rintro rfl; rw [g1] at h1; cases h1
    have hcc : c' ≠ c := by rintro rfl; rw [g2] at h2; cases h2
    refine ⟨es, xs, k, by simp [AHeap.set, hne, h1], ?_, h3, h4⟩
    rw [heap_setCell_other]
    · exact h2
    · exact hcc
  · intro c' hc'
    obtain ⟨h1, h2⟩ := h.dfr c' hc'
    have hcc : c' ≠ c := by rintro rfl; rw [g2] at h1; cases h1
    refine ⟨?_, h2⟩
    rw [heap_setCell_other]
    · exact h1
    · exact hcc
  · intro b' c' L hb'
    obtain ⟨st, p, h1, h2, h3⟩ := h.lp b' c' L hb'
    have hne : b' ≠ b := by rintro rfl; rw [g1] at h1; cases h1
    have hcc : c' ≠ c := by rintro rfl; rw [g2] at h2; cases h2
    refine ⟨st, p, by simp [AHeap.set, hne, h1], ?_, h3⟩
    rw [heap_setCell_other]
    · exact h2
    · exact hcc

/-- A new row of cells that nobody will write. -/
def Mem.newImm (μ : Mem) (c : Nat) (vs : List Value) : Mem := ⟨fun c' o => if c' = c then vs[o]? else μ.imm c' o, μ.box, μ.tip, μ.mp, μ.dfr, μ.lp⟩

theorem Sim.newImm (h : Sim w0 B μ H w) (vs : List Value) (e : TypeId) (h1 : ∀ x ∈ vs, x.oneCell' = true) :
    Ext μ (μ.newImm w.heap.size vs) ∧ Sim w0 B (μ.newImm w.heap.size vs) H (w.alloc (.cells vs.toArray e)) := by
  have he : Ext μ (μ.newImm w.heap.size vs) := ⟨fun c o x hx => by
    have := h.imm_block_lt hx
    simp only [Mem.newImm]
    rw [if_neg (by omega)]
    exact hx, fun _ _ h => h, fun b t h => ⟨t, h, Nat.le_refl _, fun _ => rfl⟩, fun _ _ h => h, fun _ h => h, fun _ _ h => h⟩
  have ha := h.alloc (.cells vs.toArray e)
  refine ⟨he, ha.below, ?_, ha.base, ?_, ha.fresh, ?_, ha.inj, ?_, ha.tinj, ?_, ha.minj, ha.dfr, ha.lp, ha.linj⟩
  · intro c o x hlt hx
    have := h.base
    simp only [Mem.newImm] at hx
    rw [if_neg (by omega)] at hx
    exact h.old c o x hlt hx
  · intro c o x hx
    simp only [Mem.newImm] at hx
    split at hx
    · rename_i hc
      subst hc
      exact ⟨by simpa using hx, h1 x (List.mem_of_getElem? hx)⟩
    · exact ha.imm c o x hx
  · intro b c hb
    obtain ⟨cs', vs', e', k1, h2, h3, h4, h5, h6⟩ := ha.box b c hb
    refine ⟨cs', vs', e', k1, h2, h3.mono he, h4, fun o => ?_, h6⟩
    simp only [Mem.newImm]
    rw [if_neg (by have := h.box_block_lt hb; omega)]
    exact h5 o
  · intro b t hb
    obtain ⟨h1, h2, h3, h4, h5, h6⟩ := ha.tip b t hb
    refine ⟨h1, h2, h3, fun o ho => ?_, h5, h6⟩
    simp only [Mem.newImm]
    rw [if_neg (by have := h.tip_block_lt hb; omega)]
    exact h4 o ho
  · intro b c hb
    obtain ⟨es, xs, k, h1, h2, h3, h4⟩ := ha.mp b c hb
    exact ⟨es, xs, k, h1, h2, h3.mono he, h4⟩

/-- What stands in a box. -/
theorem Sim.boxCells (h : Sim w0 B μ H w) {b c : Nat} (hb : μ.box b = some c) {cs : List V} (hg : H.get b = some (.box cs)) :
    ∃ vs e, w.heap[c]? = some (.cells (List.toArray vs) e (0, 0)) ∧ PReps μ cs vs ∧ ∀ x ∈ vs, x.oneCell' = true := by
  obtain ⟨cs0, vs0, e0, g1, g2, g3, g4, g5, g6⟩ := h.box b c hb
  rw [g1] at hg
  injection hg with hg
  injection hg with hg
  subst hg
  exact ⟨vs0, e0, g2, g3, g6⟩
end
end Go.Alt

/- The abstract layer, part 3: growing rows, and the loads and stores of variables. No condition. -/
namespace Go.Alt
open Go Go.RowKit

def Mem.reTip (μ : Mem) (id : Nat) (t : Tip) (vs : List Value) : Mem :=
  ⟨fun c o => if c = t.c then vs[o]? else μ.imm c o, μ.box, fun i => if i = id then some t else μ.tip i, μ.mp, μ.dfr, μ.lp⟩

section
variable {w0 : Base} {w : World} {B : Nat} {μ : Mem} {H : AHeap}

/-- A new row of which a prefix is protected, the rest is its owner's. -/
theorem Sim.reTip (h : Sim w0 B μ H w) {H' : AHeap} {id n cap sz : Nat} (vs rest : List Value) (e : TypeId)
    (hg : ∀ i, i ≠ id → H'.get i = H.get i) (hid : H'.get id = some (.tip n)) (hn : H.n ≤ H'.n) (hlt : id < H'.n) (hb : ∀ cs, H.get id ≠ some (.box cs)) (hm : ∀ es, H.get id ≠ some (.map es)) (hlp : ∀ st p, H.get id ≠ some (.lp st p))
    (ht : ∀ t, μ.tip id = some t → t.n < n) (h0 : 0 < n) (hvs : vs.length = n * sz) (hrest : rest.length = (cap - n) * sz) (hcap : n ≤ cap) (h1 : ∀ x ∈ vs, x.oneCell' = true) :
    Ext μ (μ.reTip id ⟨w.heap.size, n, cap, sz⟩ vs) ∧ Sim w0 B (μ.reTip id ⟨w.heap.size, n, cap, sz⟩ vs) H' (w.alloc (.cells (vs ++ rest).toArray e)) := by
  have hnb : μ.box id = none := by
    cases hx : μ.box id with
    | none => rfl
    | some c => obtain ⟨cs, _, _, q, _⟩ := h.box id c hx; exact absurd q (hb cs)
  have he : Ext μ (μ.reTip id ⟨w.heap.size, n, cap, sz⟩ vs) := by
    refine ⟨fun c o x hx => ?_, fun _ _ h => h, fun b t hbt => ?_, fun _ _ h => h, fun _ h => h, fun _ _ h => h⟩
    · have := h.imm_block_lt hx
      simp only [Mem.reTip]
      rw [if_neg (by omega)]
      exact hx
    · by_cases hbi : b = id
      · subst hbi
        have q1 := ht t hbt
        exact ⟨⟨w.heap.size, n, cap, sz⟩, by simp [Mem.reTip], Nat.le_of_lt q1, fun e => by simp only at e; omega⟩
      · exact ⟨t, by simp [Mem.reTip, hbi, hbt], Nat.le_refl _, fun _ => rfl⟩
  have ha := h.alloc (.cells (vs ++ rest).toArray e)
  refine ⟨he, ha.below, ?_, ha.base, ?_, ?_, ?_, h.inj, ?_, ?_, ?_, h.minj, ha.dfr, ?_, h.linj⟩
  · intro c o x hlt hx
    have := h.base
    simp only [Mem.reTip] at hx
    rw [if_neg (by omega)] at hx
    exact h.old c o x hlt hx
  · intro c o x hx
    simp only [Mem.reTip] at hx
    split at hx
    · rename_i hc
      subst hc
      refine ⟨?_, h1 x (List.mem_of_getElem? hx)⟩
      rw [World.cell?_alloc_new]
      have := (List.getElem?_eq_some_iff.1 hx).1
      simpa [List.getElem?_append_left this] using hx
    · exact ha.imm c o x hx
  · intro i hi
    rw [hg i (by omega)]
    exact h.fresh i (by omega)
  · intro b c hbc
    have hbc' : μ.box b = some c := hbc
    obtain ⟨cs', vs', e', k1, h2, h3, h4, h5, h6⟩ := ha.box b c hbc'
    have hbi : b ≠ id := by rintro rfl; rw [hnb] at hbc'; cases hbc'
    refine ⟨cs', vs', e', by rw [hg b hbi]; exact k1, h2, h3.mono he, h4, fun o => ?_, h6⟩
    simp only [Mem.reTip]
    rw [if_neg (by have := h.box_block_lt hbc'; omega)]
    exact h5 o
  · intro b t hbt
    simp only [Mem.reTip] at hbt
    split at hbt
    · rename_i hbi
      subst hbi
      injection hbt with hbt
      subst hbt
      refine ⟨hid, h.base, ⟨hcap, h0⟩, fun o ho => ?_, fun b' hb' => ?_, _, _, heap_alloc_new w _, ?_⟩
      · simp only [Mem.reTip, if_true]
        rw [List.getElem?_eq_none]
        simp only at ho; omega
      · have := h.box_block_lt (b := b') hb'; simp only at this; omega
      · simp only [List.size_toArray, List.length_append, hvs, hrest, ← Nat.add_mul]
        congr 1; omega
    · rename_i hbi
      obtain ⟨k1, k2, k3, k4, k5, vs', e', k6, k7⟩ := ha.tip b t hbt
      refine ⟨by rw [hg b hbi]; exact k1, k2, k3, fun o ho => ?_, k5, vs', e', k6, k7⟩
      simp only [Mem.reTip]
      rw [if_neg (by have := h.tip_block_lt hbt; omega)]
      exact k4 o ho
  · intro b b' t t' hbt hbt' hc
    simp only [Mem.reTip] at hbt hbt'
    by_cases q1 : b = id <;> by_cases q2 : b' = id <;> simp only [q1, q2, if_true, if_false] at hbt hbt'
    · rw [q1, q2]
    · have := h.tip_block_lt hbt'; injection hbt with hbt; subst hbt; simp only at hc; omega
    · have := h.tip_block_lt hbt; injection hbt' with hbt'; subst hbt'; simp only at hc; omega
    · exact h.tinj b b' t t' hbt hbt' hc
  · intro b c hbc
    obtain ⟨es, xs, k, k1, h2, h3, h4⟩ := ha.mp b c hbc
    have hbi : b ≠ id := by rintro rfl; exact hm es k1
    exact ⟨es, xs, k, by rw [hg b hbi]; exact k1, h2, h3.mono he, h4⟩
  · intro b c L hbc
    obtain ⟨st, p, k1, k2⟩ := ha.lp b c L hbc
    have hbi : b ≠ id := by rintro rfl; exact hlp st p k1
    exact ⟨st, p, by rw [hg b hbi]; exact k1, k2⟩

/-- More cells of an owner's row, in place. -/
def Mem.growTip (μ : Mem) (id : Nat) (t : Tip) (k : Nat) (vs : List Value) : Mem :=
  ⟨fun c o => if c = t.c ∧ t.n * t.sz ≤ o ∧ o < t.n * t.sz + vs.length then vs[o - t.n * t.sz]? else μ.imm c o, μ.box, fun i => if i = id then some { t with n := t.n + k } else μ.tip i, μ.mp, μ.dfr, μ.lp⟩

theorem Sim.growTip (h : Sim w0 B μ H w) {id : Nat} {t : Tip} (ht : μ.tip id = some t) {k : Nat} (hk : 0 < k) (vs : List Value) (hvs : vs.length = k * t.sz) (hfit : t.n + k ≤ t.cap)
    {cur : Array Value} {e : TypeId} (hcur : w.heap[t.c]? = some (.cells cur e (0, 0))) (h1 : ∀ x ∈ vs, x.oneCell' = true) :
    Ext μ (μ.growTip id t k vs) ∧ Sim w0 B (μ.growTip id t k vs) (H.tip id (t.n + k)) (w.setRow t.c (cur.toList.take (t.n * t.sz) ++ vs ++ cur.toList.drop (t.n * t.sz + vs.length)).toArray) := by
  obtain ⟨g1, g2, g3, g4, g5, cur', e', g6, g7⟩ := h.tip id t ht
  rw [hcur] at g6
  injection g6 with g6
  injection g6 with q1 q2
  subst q1
  have hsz : t.n * t.sz + vs.length ≤ cur.size := by
    rw [hvs, ← Nat.add_mul, g7]
    exact Nat.mul_le_mul_right _ hfit
  have he : Ext μ (μ.growTip id t k vs) := by
    refine ⟨fun c o x hx => ?_, fun _ _ h => h, fun b t' hbt => ?_, fun _ _ h => h, fun _ h => h, fun _ _ h => h⟩
    · simp only [Mem.growTip]
      rw [if_neg]
      · exact hx
      · rintro ⟨rfl, q, _⟩
        rw [g4 o q] at hx; cases hx
    · by_cases hbi : b = id
      · subst hbi
        rw [ht] at hbt
        injection hbt with hbt
        subst hbt
        exact ⟨{ t with n := t.n + k }, by simp [Mem.growTip], by simp, fun e => by simp only at e; omega⟩
      · exact ⟨t', by simp [Mem.growTip, hbi, hbt], Nat.le_refl _, fun _ => rfl⟩
  have hother : ∀ i, i ≠ t.c → (w.setRow t.c (cur.toList.take (t.n * t.sz) ++ vs ++ cur.toList.drop (t.n * t.sz + vs.length)).toArray).heap[i]? = w.heap[i]? := fun i hi => setRow_other w t.c i _ hi
  have hsame := setRow_heap w t.c cur (cur.toList.take (t.n * t.sz) ++ vs ++ cur.toList.drop (t.n * t.sz + vs.length)).toArray e (0, 0) hcur
  have htl : (cur.toList.take (t.n * t.sz)).length = t.n * t.sz := by simp; omega
  have hlen : (cur.toList.take (t.n * t.sz) ++ vs ++ cur.toList.drop (t.n * t.sz + vs.length)).length = cur.size := by
    simp only [List.length_append, htl, List.length_drop, Array.length_toList]
    omega
  refine ⟨he, below_setRow h.below g2 _, ?_, by have := h.base; simpa using this, ?_, ?_, ?_, h.inj, ?_, ?_, ?_, h.minj, ?_, ?_, h.linj⟩
  · intro c o x hlt hx
    simp only [Mem.growTip] at hx
    rw [if_neg (by omega)] at hx
    exact h.old c o x hlt hx
  · intro c o x hx
    simp only [Mem.growTip] at hx
    split at hx
    · rename_i hc
      obtain ⟨rfl, q1, q2⟩ := hc
      refine ⟨?_, h1 x (List.mem_of_getElem? hx)⟩
      rw [cell_of_row _ _ o _ _ _ hsame]
      simp only [List.getElem?_toArray]
      rw [List.append_assoc, List.getElem?_append_right (by omega), htl, List.getElem?_append_left (by omega)]
      exact hx
    · rename_i hc
      obtain ⟨k1, k2⟩ := h.imm c o x hx
      refine ⟨?_, k2⟩
      by_cases hcc : c = t.c
      · subst hcc
        have ho : o < t.n * t.sz := by
          rcases Nat.lt_or_ge o (t.n * t.sz) with q | q
          · exact q
          · rw [g4 o q] at hx; cases hx
        rw [cell_of_row _ _ o _ _ _ hsame]
        rw [cell_of_row _ _ o _ _ _ hcur] at k1
        simp only [List.getElem?_toArray]
        rw [List.append_assoc, List.getElem?_append_left (by omega), List.getElem?_take, if_pos ho]
        simpa using k1
      · exact (World.cell?_of_block (hother c hcc)).trans k1
  · intro i hi
    simp only [AHeap.n_tip] at hi
    rw [AHeap.get_tip, if_neg (by have := h.tip_lt ht; omega)]
    exact h.fresh i hi
  · intro b c hbc
    have hbc' : μ.box b = some c := hbc
    obtain ⟨cs', vs', e', k1, h2, h3, h4, h5, h6⟩ := h.box b c hbc'
    have hbi : b ≠ id := by rintro rfl; rw [g1] at k1; cases k1
    have hct : c ≠ t.c := fun q => g5 b (by rw [hbc', q])
    refine ⟨cs', vs', e', by rw [AHeap.get_tip, if_neg hbi]; exact k1, by rw [hother c hct]; exact h2, h3.mono he, h4, fun o => ?_, h6⟩
    simp only [Mem.growTip]
    rw [if_neg (fun q => hct q.1)]
    exact h5 o
  · intro b t' hbt
    simp only [Mem.growTip] at hbt
    split at hbt
    · rename_i hbi
      subst hbi
      injection hbt with hbt
      subst hbt
      refine ⟨by simp [AHeap.get_tip], g2, ⟨hfit, by simp only; omega⟩, fun o ho => ?_, g5, _, _, hsame, ?_⟩
      · simp only at ho
        rw [Nat.add_mul] at ho
        simp only [Mem.growTip]
        rw [if_neg (by omega)]
        exact g4 o (by omega)
      · simp only [List.size_toArray, hlen, g7]
    · rename_i hbi
      obtain ⟨k1, k2, k3, k4, k5, vs', e', k6, k7⟩ := h.tip b t' hbt
      have hct : t'.c ≠ t.c := fun q => hbi (h.tinj b id t' t hbt ht q)
      refine ⟨by rw [AHeap.get_tip, if_neg hbi]; exact k1, k2, k3, fun o ho => ?_, k5, vs', e', by rw [hother _ hct]; exact k6, k7⟩
      simp only [Mem.growTip]
      rw [if_neg (fun q => hct q.1)]
      exact k4 o ho
  · intro b b' t1 t2 hbt hbt' hc
    simp only [Mem.growTip] at hbt hbt'
    by_cases q1 : b = id <;> by_cases q2 : b' = id <;> simp only [q1, q2, if_true, if_false] at hbt hbt'
    · rw [q1, q2]
    · injection hbt with hbt; subst hbt; exact absurd (h.tinj b' id t2 t hbt' ht hc.symm) q2
    · injection hbt' with hbt'; subst hbt'; exact absurd (h.tinj b id t1 t hbt ht hc) q1
    · exact h.tinj b b' t1 t2 hbt hbt' hc
  · intro b c hbc
    obtain ⟨es, xs, k', k1, h2, h3, h4⟩ := h.mp b c hbc
    have hbi : b ≠ id := by rintro rfl; rw [g1] at k1; cases k1
    have hct : c ≠ t.c := by rintro rfl; rw [hcur] at h2; cases h2
    exact ⟨es, xs, k', by rw [AHeap.get_tip, if_neg hbi]; exact k1, by rw [hother c hct]; exact h2, h3.mono he, h4⟩
  · intro c hc
    obtain ⟨k1, k2⟩ := h.dfr c hc
    have hct : c ≠ t.c := by rintro rfl; rw [hcur] at k1; cases k1
    exact ⟨by rw [hother c hct]; exact k1, k2⟩
  · intro b c L hbc
    obtain ⟨st, p, k1, k2, k3⟩ := h.lp b c L hbc
    have hbi : b ≠ id := by rintro rfl; rw [g1] at k1; cases k1
    have hct : c ≠ t.c := by rintro rfl; rw [hcur] at k2; cases k2
    exact ⟨st, p, by rw [AHeap.get_tip, if_neg hbi]; exact k1, by rw [hother c hct]; exact k2, k3⟩

end

section
variable {w0 : Base} {w : World} {B : Nat} {μ : Mem} {H : AHeap}
/-- A new row of which a prefix is protected. -/
theorem Sim.newImmP (h : Sim w0 B μ H w) (vs rest : List Value) (e : TypeId) (h1 : ∀ x ∈ vs, x.oneCell' = true) :
    Ext μ (μ.newImm w.heap.size vs) ∧ Sim w0 B (μ.newImm w.heap.size vs) H (w.alloc (.cells (vs ++ rest).toArray e)) := by
  obtain ⟨he, _⟩ := h.newImm vs e h1
  have ha := h.alloc (.cells (vs ++ rest).toArray e)
  refine ⟨he, ha.below, ?_, ha.base, ?_, ha.fresh, ?_, ha.inj, ?_, ha.tinj, ?_, ha.minj, ha.dfr, ha.lp, ha.linj⟩
  · intro c o x hlt hx
    have := h.base
    simp only [Mem.newImm] at hx
    rw [if_neg (by omega)] at hx
    exact h.old c o x hlt hx
  · intro c o x hx
    simp only [Mem.newImm] at hx
    split at hx
    · rename_i hc
      subst hc
      have := (List.getElem?_eq_some_iff.1 hx).1
      exact ⟨by simpa [List.getElem?_append_left this] using hx, h1 x (List.mem_of_getElem? hx)⟩
    · exact ha.imm c o x hx
  · intro b c hb
    obtain ⟨cs', vs', e', k1, h2, h3, h4, h5, h6⟩ := ha.box b c hb
    refine ⟨cs', vs', e', k1, h2, h3.mono he, h4, fun o => ?_, h6⟩
    simp only [Mem.newImm]
    rw [if_neg (by have := h.box_block_lt hb; omega)]
    exact h5 o
  · intro b t hb
    obtain ⟨h1, h2, h3, h4, h5, h6⟩ := ha.tip b t hb
    refine ⟨h1, h2, h3, fun o ho => ?_, h5, h6⟩
    simp only [Mem.newImm]
    rw [if_neg (by have := h.tip_block_lt hb; omega)]
    exact h4 o ho
  · intro b c hb
    obtain ⟨es, xs, k, h1, h2, h3, h4⟩ := ha.mp b c hb
    exact ⟨es, xs, k, h1, h2, h3.mono he, h4⟩
/-- A number for a row that is not there yet. -/
theorem Sim.newTip0 (h : Sim w0 B μ H w) {id : Nat} (hid : H.get id = none) (n : Nat) : Sim w0 B μ (H.new id (.tip n)) w := by
  refine ⟨h.below, h.old, h.base, h.imm, ?_, ?_, h.inj, ?_, h.tinj, ?_, h.minj, h.dfr, ?_, h.linj⟩
  · intro i hi
    simp only [AHeap.new] at hi ⊢
    rw [if_neg (by omega)]
    exact h.fresh i (by omega)
  · intro b c hb
    obtain ⟨cs', vs', e', k1, h2⟩ := h.box b c hb
    have hne : b ≠ id := by rintro rfl; rw [hid] at k1; cases k1
    exact ⟨cs', vs', e', by simp [AHeap.new, hne, k1], h2⟩
  · intro b t hb
    obtain ⟨k1, h2⟩ := h.tip b t hb
    have hne : b ≠ id := by rintro rfl; rw [hid] at k1; cases k1
    exact ⟨by simp [AHeap.new, hne, k1], h2⟩
  · intro b c hb
    obtain ⟨es, xs, k, k1, h2⟩ := h.mp b c hb
    have hne : b ≠ id := by rintro rfl; rw [hid] at k1; cases k1
    exact ⟨es, xs, k, by simp [AHeap.new, hne, k1], h2⟩
  · intro b c L hb
    obtain ⟨st, p, k1, k2⟩ := h.lp b c L hb
    have hne : b ≠ id := by rintro rfl; rw [hid] at k1; cases k1
    exact ⟨st, p, by simp [AHeap.new, hne, k1], k2⟩
/-- A new map. -/
def Mem.newMap (μ : Mem) (id c : Nat) : Mem := ⟨μ.imm, μ.box, μ.tip, fun i => if i = id then some c else μ.mp i, μ.dfr, μ.lp⟩
theorem Sim.newMap (h : Sim w0 B μ H w) {id : Nat} (hid : H.get id = none) :
    Ext μ (μ.newMap id w.heap.size) ∧ Sim w0 B (μ.newMap id w.heap.size) (H.new id (.map [])) (w.alloc (.map #[] 0)) := by
  have hno : μ.mp id = none := by
    cases hx : μ.mp id with
    | none => rfl
    | some c => obtain ⟨es, xs, k, h1, _⟩ := h.mp id c hx; rw [hid] at h1; cases h1
  have he : Ext μ (μ.newMap id w.heap.size) := ⟨fun _ _ _ h => h, fun _ _ h => h, fun b t h => ⟨t, h, Nat.le_refl _, fun _ => rfl⟩, fun b c hb => by
    simp only [Mem.newMap]
    rw [if_neg (fun e => by subst e; rw [hno] at hb; cases hb)]
    exact hb, fun _ h => h, fun _ _ h => h⟩
  have ha := h.alloc (.map #[] 0)
  refine ⟨he, ha.below, ha.old, ha.base, ha.imm, ?_, ?_, ha.inj, ?_, ha.tinj, ?_, ?_, ha.dfr, ?_, ha.linj⟩
  · intro i hi
    simp only [AHeap.new] at hi ⊢
    rw [if_neg (by omega)]
    exact h.fresh i (by omega)
  · intro b c hb
    obtain ⟨cs, vs, e, k1, k2, k3, k4⟩ := ha.box b c hb
    have hne : b ≠ id := by rintro rfl; rw [hid] at k1; cases k1
    exact ⟨cs, vs, e, by simp [AHeap.new, hne, k1], k2, k3.mono he, k4⟩
  · intro b t hb
    obtain ⟨k1, k2⟩ := ha.tip b t hb
    have hne : b ≠ id := by rintro rfl; rw [hid] at k1; cases k1
    exact ⟨by simp [AHeap.new, hne, k1], k2⟩
  · intro b c hb
    simp only [Mem.newMap] at hb
    split at hb
    · rename_i hbi
      subst hbi
      injection hb with hb
      subst hb
      exact ⟨[], #[], 0, by simp [AHeap.new], heap_alloc_new w _, trivial, h.base⟩
    · rename_i hbi
      obtain ⟨es, xs, k, k1, k2, k3, k4⟩ := ha.mp b c hb
      exact ⟨es, xs, k, by simp [AHeap.new, hbi, k1], k2, k3.mono he, k4⟩
  · intro b b' c hb hb'
    simp only [Mem.newMap] at hb hb'
    by_cases h1 : b = id <;> by_cases h2 : b' = id <;> simp only [h1, h2, if_true, if_false] at hb hb'
    · rw [h1, h2]
    · have := h.mp_block_lt hb'; injection hb with hb; omega
    · have := h.mp_block_lt hb; injection hb' with hb'; omega
    · exact h.minj b b' c hb hb'
  · intro b c L hb
    obtain ⟨st, p, k1, k2⟩ := ha.lp b c L hb
    have hne : b ≠ id := by rintro rfl; rw [hid] at k1; cases k1
    exact ⟨st, p, by simp [AHeap.new, hne, k1], k2⟩
/-- A map's entries anew. -/
theorem Sim.setMap (h : Sim w0 B μ H w) {b c : Nat} (hb : μ.mp b = some c) {es : List (V × V)} {xs : Array MapEntry} (hr : MReps μ es xs.toList) (k : Nat) :
    Sim w0 B μ (H.mset b es) { w with heap := w.heap.setIfInBounds c (.map xs k) } := by
  obtain ⟨es0, xs0, k0, g1, g2, g3, g4⟩ := h.mp b c hb
  have hother : ∀ i, i ≠ c → (w.heap.setIfInBounds c (.map xs k))[i]? = w.heap[i]? := fun i hi => Array.getElem?_setIfInBounds_ne (Ne.symm hi)
  have hlt := h.mp_block_lt hb
  have hcell : ∀ p : Addr, p.block ≠ c → World.cell? { w with heap := w.heap.setIfInBounds c (.map xs k) } p = w.cell? p := fun p hp => World.cell?_of_block (hother p.block hp)
  refine ⟨h.below.trans ⟨rfl, rfl, rfl, by simp, fun i hi => hother i (by omega)⟩, h.old, by simpa using h.base, ?_, ?_, ?_, h.inj, ?_, h.tinj, ?_, h.minj, ?_, ?_, h.linj⟩
  · intro c' o x hx
    obtain ⟨k1, k2⟩ := h.imm c' o x hx
    refine ⟨?_, k2⟩
    rw [hcell]
    · exact k1
    · rintro rfl
      simp [World.cell?, g2] at k1
  · intro i hi
    simp only [AHeap.mset] at hi ⊢
    have := h.mp_lt hb
    rw [if_neg (by omega)]
    exact h.fresh i hi
  · intro b' c' hb'
    obtain ⟨cs, vs, e, k1, k2, k3⟩ := h.box b' c' hb'
    have hne : b' ≠ b := by rintro rfl; rw [g1] at k1; cases k1
    have hcc : c' ≠ c := by rintro rfl; rw [g2] at k2; cases k2
    exact ⟨cs, vs, e, by simp [AHeap.mset, hne, k1], by rw [hother c' hcc]; exact k2, k3⟩
  · intro b' t hb'
    obtain ⟨k1, k2, k3, k4, k5, vs, e, k6, k7⟩ := h.tip b' t hb'
    have hne : b' ≠ b := by rintro rfl; rw [g1] at k1; cases k1
    have hcc : t.c ≠ c := by rintro q; rw [q, g2] at k6; cases k6
    exact ⟨by simp [AHeap.mset, hne, k1], k2, k3, k4, k5, vs, e, by rw [hother _ hcc]; exact k6, k7⟩
  · intro b' c' hb'
    by_cases hbb : b' = b
    · subst hbb
      rw [hb] at hb'
      injection hb' with hb'
      subst hb'
      exact ⟨es, xs, k, by simp [AHeap.mset], by simp [hlt], hr, g4⟩
    · obtain ⟨es', xs', k', k1, k2, k3⟩ := h.mp b' c' hb'
      have hcc : c' ≠ c := by rintro rfl; exact hbb (h.minj _ _ _ hb' hb)
      exact ⟨es', xs', k', by simp [AHeap.mset, hbb, k1], by rw [hother c' hcc]; exact k2, k3⟩
  · intro c' hc'
    obtain ⟨k1, k2⟩ := h.dfr c' hc'
    have hcc : c' ≠ c := by rintro rfl; rw [g2] at k1; cases k1
    exact ⟨by rw [hother c' hcc]; exact k1, k2⟩
  · intro b' c' L hb'
    obtain ⟨st, p, k1, k2, k3⟩ := h.lp b' c' L hb'
    have hne : b' ≠ b := by rintro rfl; rw [g1] at k1; cases k1
    have hcc : c' ≠ c := by rintro rfl; rw [g2] at k2; cases k2
    exact ⟨st, p, by simp [AHeap.mset, hne, k1], by rw [hother c' hcc]; exact k2, k3⟩

/-- A new block for the deferred calls of rounds. -/
def Mem.newDfr (μ : Mem) (c : Nat) : Mem := { μ with dfr := fun i => if i = c then true else μ.dfr i }
theorem Sim.newDfr (h : Sim w0 B μ H w) : Ext μ (μ.newDfr w.heap.size) ∧ Sim w0 B (μ.newDfr w.heap.size) H (w.alloc (.deferred (some []))) ∧ μ.dfr w.heap.size = false := by
  have hno : μ.dfr w.heap.size = false := by
    cases hx : μ.dfr w.heap.size with
    | false => rfl
    | true => have := h.dfr_block_lt hx; omega
  have he : Ext μ (μ.newDfr w.heap.size) := ⟨fun _ _ _ h => h, fun _ _ h => h, fun b t h => ⟨t, h, Nat.le_refl _, fun _ => rfl⟩, fun _ _ h => h, fun c hc => by
    simp only [Mem.newDfr]
    split
    · rfl
    · exact hc, fun _ _ h => h⟩
  have ha := h.alloc (.deferred (some []))
  refine ⟨he, ⟨ha.below, ha.old, ha.base, ha.imm, ha.fresh, ?_, ha.inj, ha.tip, ha.tinj, ?_, ha.minj, ?_, ha.lp, ha.linj⟩, hno⟩
  · intro b c hb
    obtain ⟨cs, vs, e, k1, k2, k3, k4⟩ := ha.box b c hb
    exact ⟨cs, vs, e, k1, k2, k3.mono he, k4⟩
  · intro b c hb
    obtain ⟨es, xs, k, k1, k2, k3, k4⟩ := ha.mp b c hb
    exact ⟨es, xs, k, k1, k2, k3.mono he, k4⟩
  · intro c hc
    simp only [Mem.newDfr] at hc
    split at hc
    · rename_i hcc
      subst hcc
      exact ⟨heap_alloc_new w _, h.base⟩
    · exact ha.dfr c hc
/-- The deferred calls are taken: there are none. -/
theorem Sim.dropDfr (h : Sim w0 B μ H w) {c : Nat} (hc : μ.dfr c = true) (o : Obj) : Sim w0 B (μ.dropDfr c) H { w with heap := w.heap.setIfInBounds c o } := by
  obtain ⟨g2, g4⟩ := h.dfr c hc
  have hother : ∀ i, i ≠ c → (w.heap.setIfInBounds c o)[i]? = w.heap[i]? := fun i hi => Array.getElem?_setIfInBounds_ne (Ne.symm hi)
  have hcell : ∀ q : Addr, q.block ≠ c → World.cell? { w with heap := w.heap.setIfInBounds c o } q = w.cell? q := fun q hq => World.cell?_of_block (hother q.block hq)
  refine ⟨h.below.trans ⟨rfl, rfl, rfl, by simp, fun i hi => hother i (by omega)⟩, h.old, by simpa using h.base, ?_, h.fresh, ?_, h.inj, ?_, h.tinj, ?_, h.minj, ?_, ?_, h.linj⟩
  · intro c' o' x hx
    obtain ⟨k1, k2⟩ := h.imm c' o' x hx
    refine ⟨?_, k2⟩
    rw [hcell]
    · exact k1
    · rintro rfl
      simp [World.cell?, g2] at k1
  · intro b' c' hb'
    obtain ⟨cs, vs, e, k1, k2, k3, k4⟩ := h.box b' c' hb'
    have hcc : c' ≠ c := by rintro rfl; rw [g2] at k2; cases k2
    exact ⟨cs, vs, e, k1, by rw [hother c' hcc]; exact k2, ⟨k3.1, fun i hi => (k3.2 i hi).dropDfr⟩, k4⟩
  · intro b' t hb'
    obtain ⟨k1, k2, k3, k4, k5, vs, e, k6, k7⟩ := h.tip b' t hb'
    have hcc : t.c ≠ c := by rintro q; rw [q, g2] at k6; cases k6
    exact ⟨k1, k2, k3, k4, k5, vs, e, by rw [hother _ hcc]; exact k6, k7⟩
  · intro b' c' hb'
    obtain ⟨es', xs', k', k1, k2, k3, k4⟩ := h.mp b' c' hb'
    have hcc : c' ≠ c := by rintro rfl; rw [g2] at k2; cases k2
    exact ⟨es', xs', k', k1, by rw [hother c' hcc]; exact k2, k3.dropDfr, k4⟩
  · intro c' hc'
    simp only [Mem.dropDfr] at hc'
    split at hc'
    · cases hc'
    · rename_i hcc
      obtain ⟨k1, k2⟩ := h.dfr c' hc'
      exact ⟨by rw [hother c' hcc]; exact k1, k2⟩
  · intro b' c' L hb'
    obtain ⟨st, p, k1, k2, k3⟩ := h.lp b' c' L hb'
    have hcc : c' ≠ c := by rintro rfl; rw [g2] at k2; cases k2
    exact ⟨st, p, k1, by rw [hother c' hcc]; exact k2, k3⟩
/-- A new loop's record. -/
def Mem.newLp (μ : Mem) (id c : Nat) (L : Loop) : Mem := { μ with lp := fun i => if i = id then some (c, L) else μ.lp i }
theorem Sim.newLp (h : Sim w0 B μ H w) {id : Nat} (hid : H.get id = none) (L : Loop) :
    Ext μ (μ.newLp id w.heap.size L) ∧ Sim w0 B (μ.newLp id w.heap.size L) (H.new id (.lp L.state L.pending)) (w.alloc (.loop L)) := by
  have hno : μ.lp id = none := by
    cases hx : μ.lp id with
    | none => rfl
    | some c => obtain ⟨st, p, h1, _⟩ := h.lp id c.1 c.2 hx; rw [hid] at h1; cases h1
  have he : Ext μ (μ.newLp id w.heap.size L) := ⟨fun _ _ _ h => h, fun _ _ h => h, fun b t h => ⟨t, h, Nat.le_refl _, fun _ => rfl⟩, fun _ _ h => h, fun _ h => h, fun b c hb => by
    simp only [Mem.newLp]
    rw [if_neg (fun e => by subst e; rw [hno] at hb; cases hb)]
    exact hb⟩
  have ha := h.alloc (.loop L)
  refine ⟨he, ha.below, ha.old, ha.base, ha.imm, ?_, ?_, ha.inj, ?_, ha.tinj, ?_, ha.minj, ha.dfr, ?_, ?_⟩
  · intro i hi
    simp only [AHeap.new] at hi ⊢
    rw [if_neg (by omega)]
    exact h.fresh i (by omega)
  · intro b c hb
    obtain ⟨cs, vs, e, k1, k2, k3, k4⟩ := ha.box b c hb
    have hne : b ≠ id := by rintro rfl; rw [hid] at k1; cases k1
    exact ⟨cs, vs, e, by simp [AHeap.new, hne, k1], k2, k3.mono he, k4⟩
  · intro b t hb
    obtain ⟨k1, k2⟩ := ha.tip b t hb
    have hne : b ≠ id := by rintro rfl; rw [hid] at k1; cases k1
    exact ⟨by simp [AHeap.new, hne, k1], k2⟩
  · intro b c hb
    obtain ⟨es, xs, k, k1, k2, k3, k4⟩ := ha.mp b c hb
    have hne : b ≠ id := by rintro rfl; rw [hid] at k1; cases k1
    exact ⟨es, xs, k, by simp [AHeap.new, hne, k1], k2, k3.mono he, k4⟩
  · intro b c L' hb
    simp only [Mem.newLp] at hb
    split at hb
    · rename_i hbi
      subst hbi
      injection hb with hb
      injection hb with hb1 hb2
      subst hb1; subst hb2
      exact ⟨L.state, L.pending, by simp [AHeap.new], heap_alloc_new w _, h.base⟩
    · rename_i hbi
      obtain ⟨st, p, k1, k2⟩ := ha.lp b c L' hb
      exact ⟨st, p, by simp [AHeap.new, hbi, k1], k2⟩
  · intro b b' c L1 L2 hb hb'
    simp only [Mem.newLp] at hb hb'
    by_cases h1 : b = id <;> by_cases h2 : b' = id <;> simp only [h1, h2, if_true, if_false] at hb hb'
    · rw [h1, h2]
    · have := h.lp_block_lt hb'; injection hb with hb; injection hb with hb; omega
    · have := h.lp_block_lt hb; injection hb' with hb'; injection hb' with hb'; omega
    · exact h.linj b b' c L1 L2 hb hb'
/-- A loop's record anew. -/
theorem Sim.setLp (h : Sim w0 B μ H w) {b c : Nat} {L : Loop} (hb : μ.lp b = some (c, L)) (st : LoopState) (p : Option Code) :
    Sim w0 B μ (H.lset b st p) { w with heap := w.heap.setIfInBounds c (.loop { L with state := st, pending := p }) } := by
  obtain ⟨st0, p0, g1, g2, g4⟩ := h.lp b c L hb
  have hother : ∀ i, i ≠ c → (w.heap.setIfInBounds c (.loop { L with state := st, pending := p }))[i]? = w.heap[i]? := fun i hi => Array.getElem?_setIfInBounds_ne (Ne.symm hi)
  have hlt := h.lp_block_lt hb
  have hcell : ∀ q : Addr, q.block ≠ c → World.cell? { w with heap := w.heap.setIfInBounds c (.loop { L with state := st, pending := p }) } q = w.cell? q := fun q hq => World.cell?_of_block (hother q.block hq)
  refine ⟨h.below.trans ⟨rfl, rfl, rfl, by simp, fun i hi => hother i (by omega)⟩, h.old, by simpa using h.base, ?_, ?_, ?_, h.inj, ?_, h.tinj, ?_, h.minj, ?_, ?_, h.linj⟩
  · intro c' o x hx
    obtain ⟨k1, k2⟩ := h.imm c' o x hx
    refine ⟨?_, k2⟩
    rw [hcell]
    · exact k1
    · rintro rfl
      simp [World.cell?, g2] at k1
  · intro i hi
    simp only [AHeap.lset] at hi ⊢
    have := h.lp_lt hb
    rw [if_neg (by omega)]
    exact h.fresh i hi
  · intro b' c' hb'
    obtain ⟨cs, vs, e, k1, k2, k3⟩ := h.box b' c' hb'
    have hne : b' ≠ b := by rintro rfl; rw [g1] at k1; cases k1
    have hcc : c' ≠ c := by rintro rfl; rw [g2] at k2; cases k2
    exact ⟨cs, vs, e, by simp [AHeap.lset, hne, k1], by rw [hother c' hcc]; exact k2, k3⟩
  · intro b' t hb'
    obtain ⟨k1, k2, k3, k4, k5, vs, e, k6, k7⟩ := h.tip b' t hb'
    have hne : b' ≠ b := by rintro rfl; rw [g1] at k1; cases k1
    have hcc : t.c ≠ c := by rintro q; rw [q, g2] at k6; cases k6
    exact ⟨by simp [AHeap.lset, hne, k1], k2, k3, k4, k5, vs, e, by rw [hother _ hcc]; exact k6, k7⟩
  · intro b' c' hb'
    obtain ⟨es', xs', k', k1, k2, k3⟩ := h.mp b' c' hb'
    have hne : b' ≠ b := by rintro rfl; rw [g1] at k1; cases k1
    have hcc : c' ≠ c := by rintro rfl; rw [g2] at k2; cases k2
    exact ⟨es', xs', k', by simp [AHeap.lset, hne, k1], by rw [hother c' hcc]; exact k2, k3⟩
  · intro c' hc'
    obtain ⟨k1, k2⟩ := h.dfr c' hc'
    have hcc : c' ≠ c := by rintro rfl; rw [g2] at k1; cases k1
    exact ⟨by rw [hother c' hcc]; exact k1, k2⟩
  · intro b' c' L' hb'
    by_cases hbb : b' = b
    · subst hbb
      rw [hb] at hb'
      injection hb' with hb'
      injection hb' with hb1 hb2
      subst hb1; subst hb2
      exact ⟨st, p, by simp [AHeap.lset], by simp [hlt], g4⟩
    · obtain ⟨st', p', k1, k2, k3⟩ := h.lp b' c' L' hb'
      have hcc : c' ≠ c := by rintro rfl; exact hbb (h.linj _ _ _ _ _ hb' hb)
      exact ⟨st', p', by simp [AHeap.lset, hbb, k1], by rw [hother c' hcc]; exact k2, k3⟩
end

/-- What the type table says, as functions. -/
def szOf (P : Program) (t : TypeId) : Nat := match (sizeOf t).run P default with | .ok n _ => n | _ => 0
def aggOf (P : Program) (t : TypeId) : Bool := match P.underlying t with | some (.struct _) | some (.array _ _) => true | _ => false
def hasType (P : Program) (t : TypeId) : Bool := match (sizeOf t).run P default with | .ok _ _ => true | _ => false

theorem szOf_run {P : Program} {t : TypeId} (h : hasType P t = true) (w : World) : (sizeOf t).run P w = .ok (szOf P t) w := by
  cases hi : P.info? t with
  | none => simp [hasType, sizeOf, typeInfo, hi, Result.andThen] at h
  | some i => simp [szOf, sizeOf, typeInfo, hi]
theorem hasType_info {P : Program} {t : TypeId} (h : hasType P t = true) : ∃ i, P.info? t = some i ∧ szOf P t = i.size := by
  cases hi : P.info? t with
  | none => simp [hasType, sizeOf, typeInfo, hi, Result.andThen] at h
  | some i => exact ⟨i, rfl, by simp [szOf, sizeOf, typeInfo, hi]⟩
theorem szOf_info {P : Program} {t : TypeId} {i : TypeInfo} (hi : P.info? t = some i) : szOf P t = i.size := by
  simp [szOf, sizeOf, typeInfo, hi]

theorem addr_add (c o j : Nat) : (⟨c, o, none⟩ : Addr).add j = ⟨c, o + j, none⟩ := by
  unfold Addr.add
  split <;> simp_all

/-- The value of a variable whose cells (and more) are these. -/
def loadV (P : Program) (t : TypeId) (cs : List V) : V := if aggOf P t then .agg (cs.take (szOf P t)) else cs.getD 0 .any
def loadOk (P : Program) (t : TypeId) (cs : List V) : Prop := (P.underlying t).isSome = true ∧ hasType P t = true ∧ (if aggOf P t then szOf P t ≤ cs.length else 0 < cs.length)

theorem isAgg_run {P : Program} {t : TypeId} (h : (P.underlying t).isSome = true) (w : World) : (isAgg t).run P w = .ok (aggOf P t) w := by
  cases hu : P.underlying t with
  | none => simp [hu] at h
  | some d =>
    unfold isAgg aggOf
    rw [Sem.run_bind, run_underlying hu w]
    cases d <;> simp [hu]

theorem run_loadVar_cells {P : Program} {w : World} {μ : Mem} {t : TypeId} {cs : List V} {c o : Nat} (xs : Nat → Value) (hok : loadOk P t cs)
    (hc : ∀ j, j < cs.length → w.cell? ⟨c, o + j, none⟩ = some (xs j) ∧ (xs j).oneCell' = true) (hr : ∀ j, j < cs.length → VRep μ (cs.getD j .any) (xs j)) :
    ∃ x, (loadVar t ⟨c, o, none⟩).run P w = .ok x w ∧ VRep μ (loadV P t cs) x := by
  obtain ⟨hu, ht, hl⟩ := hok
  unfold loadVar loadV
  simp only [Sem.run_bind, isAgg_run hu, Result.andThen_ok]
  by_cases ha : aggOf P t = true
  · simp only [ha, if_true] at hl ⊢
    simp only [Sem.run_bind, szOf_run ht, Result.andThen_ok]
    rw [run_loadCells w ⟨c, o, none⟩ (szOf P t) xs (fun j hj => by rw [addr_add]; exact (hc j (by omega)).1)]
    refine ⟨_, rfl, .agg _ _ (by simp; omega) (fun i hi => ?_) (fun x hx => ?_)⟩
    · have hi' : i < szOf P t := Nat.lt_of_lt_of_le hi (by simp; omega)
      have := hr i (by omega)
      simpa [List.getD, List.getElem?_take, hi', List.getElem?_map, List.getElem?_range hi'] using this
    · simp only [List.mem_map, List.mem_range] at hx
      obtain ⟨j, hj, rfl⟩ := hx
      exact (hc j (by omega)).2
  · simp only [ha] at hl ⊢
    have := hc 0 (by simpa using hl)
    simp only [Nat.add_zero] at this
    simp only [Bool.false_eq_true, if_false, run_load, this.1]
    exact ⟨_, rfl, by simpa using hr 0 (by simpa using hl)⟩

/-- A value of one cell, as it is stored. -/
def V.one : V → Bool
  | .any | .agg _ | .tup _ | .opt _ _ => false
  | .con v => v.oneCell'
  | _ => true
theorem V.one_of {μ : Mem} {v : V} {x : Value} (h : VRep μ v x) (ho : v.one = true) : x.oneCell' = true := by
  cases h <;> simp_all [V.one, Value.oneCell']

/-- The cells of a value, as it is stored. -/
def V.cells : V → List V
  | .agg cs => cs
  | v => [v]
def V.flat : V → Bool
  | .agg _ => true
  | v => v.one
theorem V.cells_rep {μ : Mem} {v : V} {x : Value} (h : VRep μ v x) (hf : v.flat = true) : VReps μ v.cells x.cells.toList ∧ ∀ y ∈ x.cells.toList, y.oneCell' = true := by
  cases h with
  | agg cs cs' hl hr h1 => exact ⟨⟨by simpa [V.cells, Value.cells] using hl, by simpa [V.cells, Value.cells] using hr⟩, by simpa [Value.cells] using h1⟩
  | any x => simp [V.flat, V.one] at hf
  | opt g v x h _ => simp [V.flat, V.one] at hf
  | tup cs cs' hl hr => simp [V.flat, V.one] at hf
  | mp b c h => exact ⟨VReps.cons_ (.mp b c h) .nil_, by simp [Value.cells, Value.oneCell']⟩
  | yld b c L h => exact ⟨VReps.cons_ (.yld b c L h) .nil_, by simp [Value.cells, Value.oneCell']⟩
  | con =>
    have ho : x.oneCell' = true := hf
    have hc : x.cells = #[x] := by cases x <;> simp_all [Value.cells, Value.oneCell']
    rw [hc]
    exact ⟨VReps.cons_ (.con x) .nil_, by simpa using ho⟩
  | bool b => exact ⟨VReps.cons_ (.bool b) .nil_, by simp [Value.cells, Value.oneCell']⟩
  | int k n => exact ⟨VReps.cons_ (.int k n) .nil_, by simp [Value.cells, Value.oneCell']⟩
  | str s => exact ⟨VReps.cons_ (.str s) .nil_, by simp [Value.cells, Value.oneCell']⟩
  | fn f fs cs fs' cs' hff hc h1 h2 => exact ⟨VReps.cons_ (.fn f fs cs fs' cs' hff hc h1 h2) .nil_, by simp [Value.cells, Value.oneCell']⟩
  | nilFn => exact ⟨VReps.cons_ .nilFn .nil_, by simp [Value.cells, Value.oneCell']⟩
  | nilPtr => exact ⟨VReps.cons_ .nilPtr .nil_, by simp [Value.cells, Value.oneCell']⟩
  | nilIf => exact ⟨VReps.cons_ .nilIf .nil_, by simp [Value.cells, Value.oneCell']⟩
  | ptr b off c h => exact ⟨VReps.cons_ (.ptr b off c h) .nil_, by simp [Value.cells, Value.oneCell']⟩
  | pin cs c off xs hc hr => exact ⟨VReps.cons_ (.pin cs c off xs hc hr) .nil_, by simp [Value.cells, Value.oneCell']⟩
  | msl b off len size c cap h hcap => exact ⟨VReps.cons_ (.msl b off len size c cap h hcap) .nil_, by simp [Value.cells, Value.oneCell']⟩
  | slcNil o => exact ⟨VReps.cons_ (.slcNil o) .nil_, by simp [Value.cells, Value.oneCell']⟩
  | slc o es c off len cap sz xs hlen hcap hsz hc hr ho => exact ⟨VReps.cons_ (.slc o es c off len cap sz xs hlen hcap hsz hc hr ho) .nil_, by simp [Value.cells, Value.oneCell']⟩

def AHeap.sets (H : AHeap) (b off : Nat) : List V → AHeap
  | [] => H
  | v :: vs => (H.set b off v).sets b (off + 1) vs

theorem run_storeCells_box {P : Program} {w0 : Base} {B : Nat} {μ : Mem} {b c off : Nat} : ∀ (vs : List V) (xs : List Value) (i : Nat) (H : AHeap) (w : World), Sim w0 B μ H w → μ.box b = some c →
    VReps μ vs xs → (∀ x ∈ xs, x.oneCell' = true) → (∃ cs, H.get b = some (.box cs) ∧ off + i + vs.length ≤ cs.length) →
    ∃ w', (storeCells ⟨c, off, none⟩ xs i).run P w = .ok () w' ∧ Sim w0 B μ (H.sets b (off + i) vs) w'
  | [], xs, i, H, w, hs, hb, hr, h1, hcs => by
    rw [hr.of_nil]
    exact ⟨w, by simp [storeCells], hs⟩
  | v :: vs, ys, i, H, w, hs, hb, hr, h1, hcs => by
    obtain ⟨x, xs, rfl, hv, hvs⟩ := hr.of_cons
    obtain ⟨cs, hget, hle⟩ := hcs
    obtain ⟨cur, e, k1, k2, k3⟩ := hs.boxCells hb hget
    have hlt : off + i < cur.length := by have := k2.1; simp at hle; omega
    have hst : (store ((⟨c, off, none⟩ : Addr).add i) x).run P w = .ok () (w.setCell ⟨c, off + i, none⟩ x) := by
      rw [addr_add, run_store P w _ x .plain (h1 x (by simp))]
      rw [cell_of_row w c (off + i) cur.toArray e (0, 0) k1]
      simp only [List.getElem?_toArray, List.getElem?_eq_getElem hlt]
      rw [frozen_of_row w c (off + i) cur.toArray e k1]
      simp
    have hs' := hs.setBox hb (off := off + i) hv (h1 x (by simp))
    obtain ⟨w', hrun, hsim⟩ := run_storeCells_box (P := P) (off := off) vs xs (i + 1) (H.set b (off + i) v) _ hs' hb hvs (fun y hy => h1 y (by simp [hy]))
      ⟨cs.set (off + i) v, by simp [AHeap.get_set, hget, ABlock.set], by simp at hle ⊢; omega⟩
    refine ⟨w', ?_, ?_⟩
    · simp only [storeCells, Sem.run_bind, hst, Result.andThen_ok, hrun]
    · exact hsim

end Go.Alt

/- The abstract layer, part 4: what each operation does to abstract values, as a record. No condition. -/
namespace Go.Alt
open Go Go.RowKit

structure Cx where
  P : Program
  G : Nat → Option (List V)
  K : Mem → Prop := fun _ => True
  kmono : ∀ μ μ', Ext μ μ' → K μ → K μ' := by exact fun _ _ _ h => h

inductive Hint where
  | imm
  | tip
  | box

def ofCell : Value → V
  | .bool b => .bool b
  | .int k n => .int k n
  | .string s => .str s
  | .nilFunc => .nilFn
  | .pointer none => .nilPtr
  | .nilIface => .nilIf
  | .slice none 0 0 => .slc .full []
  | v => .con v
def ofValue : Value → V
  | .agg cs => if cs.all (·.oneCell') then .agg (cs.toList.map ofCell) else .con (.agg cs)
  | v => ofCell v

def zeroV (P : Program) (t : TypeId) : Option Value := match (zeroValue t).run P default with | .ok v _ => some v | _ => none
def zeroCells (P : Program) (t : TypeId) : List V := match zeroV P t with | some v => v.cells.toList.map ofCell | none => []
def hasZero (P : Program) (t : TypeId) : Bool := match zeroV P t with | some v => v.cells.all (·.oneCell') | none => false
def byOf (P : Program) (t : TypeId) : Nat := match (typeInfo t).run P default with | .ok i _ => i.bytes | _ => 0
def fieldAt (P : Program) (t : TypeId) (i : Nat) : Option (Nat × TypeId) :=
  match P.underlying t with
  | some (.struct fs) => (fs[i]?).map fun f => (f.offset, f.type)
  | _ => none
def elemOf (P : Program) (t : TypeId) : Option TypeId := match P.underlying t with | some (.slice e) => some e | _ => none
def arrOf (P : Program) (t : TypeId) : Option (Nat × TypeId) := match P.underlying t with | some (.array n e) => some (n, e) | _ => none
def ptrTo (P : Program) (t : TypeId) : Option TypeId := match P.underlying t with | some (.pointer e) => some e | _ => none
def isPtrT (P : Program) (t : TypeId) : Bool := match P.underlying t with | some (.pointer _) => true | _ => false
def isBoolT (P : Program) (t : TypeId) : Bool := match P.underlying t with | some .bool => true | _ => false
def isIfaceT (P : Program) (t : TypeId) : Bool := match P.underlying t with | some (.interface _) => true | _ => false
def isStrT (P : Program) (t : TypeId) : Bool := match P.underlying t with | some .string => true | _ => false
def mapOf (P : Program) (t : TypeId) : Option (TypeId × TypeId) := match P.underlying t with | some (.map k e) => some (k, e) | _ => none
def isKeyT (P : Program) (t : TypeId) (v : V) : Bool := match P.underlying t, v with | some (.int k), .int k' _ => decide (k' = k) | some .string, .str _ => true | _, _ => false
def intOfT (P : Program) (t : TypeId) : Option IntKind := match P.underlying t with | some (.int k) => some k | _ => none
def isSliceT (P : Program) (t : TypeId) : Bool := match P.underlying t with | some (.slice _) => true | _ => false

inductive Eff where
  | new (id : Nat) (b : ABlock)
  | set (id off : Nat) (v : V)
  | tip (id n : Nat)
  | mset (id : Nat) (es : List (V × V))
def Eff.app : Eff → AHeap → AHeap
  | .new id b, H => H.new id b
  | .set id off v, H => H.set id off v
  | .tip id n, H => H.tip id n
  | .mset id es, H => H.mset id es
def apps : List Eff → AHeap → AHeap
  | [], H => H
  | e :: l, H => apps l (e.app H)
def setsE (b off : Nat) : List V → List Eff
  | [] => []
  | v :: vs => .set b off v :: setsE b (off + 1) vs
theorem apps_setsE (b : Nat) : ∀ (vs : List V) (off : Nat) (H : AHeap), apps (setsE b off vs) H = H.sets b off vs
  | [], _, _ => rfl
  | v :: vs, off, H => by simp only [setsE, apps, AHeap.sets, Eff.app]; exact apps_setsE b vs (off + 1) _

structure Rec where
  ok : Prop
  val : V
  reads : List (Nat × Nat)
  effs : List Eff

def fail : Rec := ⟨False, .any, [], []⟩
def yields (v : V) : Rec := ⟨True, v, [], []⟩
def must (p : Prop) (v : V) : Rec := ⟨p, v, [], []⟩

def V.gd : V → Bool
  | .opt g _ => g
  | _ => true
def V.core : V → V
  | .opt _ v => v
  | v => v
def pickV (t : Bool) (a b : V) : V :=
  match a, b with
  | .bool x, .bool y => .bool (if t then x else y)
  | a, b => if t then a else b

def keys (b off : Nat) (_ : Nat) : List (Nat × Nat) := [(b, off)]

def splice (cs : List V) (off : Nat) (ws : List V) : List V := cs.take off ++ ws ++ cs.drop (off + ws.length)

def fieldsOk (P : Program) (t : TypeId) : Bool :=
  match P.underlying t with
  | some (.struct fs) => fs.toList.all fun f => hasType P f.type
  | some (.array _ e) => hasType P e
  | _ => false

/-- Parts laid into cells. -/
def fillV (place : Nat → Option (Nat × Nat)) : List V → List (Nat × V) → Option (List V)
  | cells, [] => some cells
  | cells, (i, v) :: rest =>
    match place i with
    | none => none
    | some (off, size) => if v.flat = true ∧ v.cells.length = size ∧ off + size ≤ cells.length then fillV place (splice cells off v.cells) rest else none

def placeOf (P : Program) (t : TypeId) (i : Nat) : Option (Nat × Nat) :=
  match P.underlying t with
  | some (.struct _) => (fieldAt P t i).map fun f => (f.1, szOf P f.2)
  | some (.array _ e) => some (i * szOf P e, szOf P e)
  | _ => none

/-- Elements in order: the parts of a slice literal. -/
def elemsOf (size : Nat) : Nat → List (Nat × V) → Option (List (List V))
  | _, [] => some []
  | k, (i, v) :: rest => if i = k ∧ v.flat = true ∧ v.cells.length = size then (elemsOf size (k + 1) rest).map (v.cells :: ·) else none

def chunks (size : Nat) : Nat → List V → List (List V)
  | 0, _ => []
  | n + 1, cs => cs.take size :: chunks size n (cs.drop size)

def binI (op : BinOp) (k : IntKind) (a b : Int) : Rec :=
  match op with
  | .add => yields (.int k (k.wrap (a + b)))
  | .sub => yields (.int k (k.wrap (a - b)))
  | .mul => yields (.int k (k.wrap (a * b)))
  | .quo => must (b ≠ 0) (.int k (k.wrap (a.tdiv b)))
  | .rem => must (b ≠ 0) (.int k (a.tmod b))
  | .eql => yields (.bool (a == b))
  | .neq => yields (.bool (a != b))
  | .lss => yields (.bool (decide (a < b)))
  | .leq => yields (.bool (decide (a ≤ b)))
  | .gtr => yields (.bool (decide (a > b)))
  | .geq => yields (.bool (decide (a ≥ b)))
  | _ => fail
def binS (op : BinOp) (a b : ByteArray) : Rec :=
  match op with
  | .add => must (a.size + b.size ≤ 9223372036854775807) (.str (a ++ b))
  | .eql => yields (.bool (a.toList == b.toList))
  | .neq => yields (.bool (!(a.toList == b.toList)))
  | _ => fail
/-- Equality of plain data, along the type. -/
def eqT (P : Program) : Nat → TypeId → List V → List V → Option Bool
  | 0, _, _, _ => none
  | d + 1, t, xs, ys =>
    match P.underlying t with
    | some .bool => match xs, ys with | .bool a :: _, .bool b :: _ => some (a == b) | _, _ => none
    | some (.int _) => match xs, ys with | .int k a :: _, .int k' b :: _ => if k = k' then some (a == b) else none | _, _ => none
    | some .string => match xs, ys with | .str a :: _, .str b :: _ => some (a.toList == b.toList) | _, _ => none
    | some (.struct fs) => if P.stoodInHeld t = true then none else fs.toList.foldr (fun f r =>
        if f.name = "_" ∨ hasType P f.type = false then none else match eqT P d f.type ((xs.drop f.offset).take (szOf P f.type)) ((ys.drop f.offset).take (szOf P f.type)), r with | some a, some b => some (a && b) | _, _ => none) (some true)
    | _ => none
def eqV (P : Program) (t : TypeId) (x y : V) : Option Bool :=
  match x, y with
  | .bool a, .bool b => if isBoolT P t then some (a == b) else none
  | .nilPtr, .nilPtr => if isPtrT P t then some true else none
  | .nilPtr, .ptr _ _ => if isPtrT P t then some false else none
  | .nilPtr, .pin _ => if isPtrT P t then some false else none
  | .ptr _ _, .nilPtr => if isPtrT P t then some false else none
  | .pin _, .nilPtr => if isPtrT P t then some false else none
  | .agg xs, .agg ys => if P.eqGuardType P.depth t = true then none else if (match P.underlying t with | some (.struct _) => true | _ => false) then eqT P 8 t xs ys else none
  | _, _ => none
def isConst : Operand → Bool
  | .const _ => true
  | _ => false
def eqR (P : Program) (neg : Bool) (t : TypeId) (x y : Operand) (a b : V) : Rec :=
  match a, b with
  | .nilIf, .nilIf => if isIfaceT P t && (isConst x || isConst y) then yields (.bool (!neg)) else fail
  | .con (.iface _ _), .nilIf => if isIfaceT P t then yields (.bool neg) else fail
  | .nilIf, .con (.iface _ _) => if isIfaceT P t then yields (.bool neg) else fail
  | a, b => match eqV P t a b with | some r => yields (.bool (if neg then !r else r)) | none => fail
def binR (P : Program) (op : BinOp) (t : TypeId) (x y : Operand) (a b : V) : Rec :=
  match a, b with
  | .int k m, .int k' n => if k = k' then binI op k m n else fail
  | .str m, .str n => binS op m n
  | a, b => match op with
    | .eql => eqR P false t x y a b
    | .neq => eqR P true t x y a b
    | _ => fail

def intV? : V → Option Int
  | .int _ n => some n
  | _ => none
/-- A bound of a slice expression: from 0 to a maximum. -/
def bnd (o : Option V) (dflt most : Nat) : Prop × Nat :=
  match o with
  | none => (dflt ≤ most, dflt)
  | some (.int _ i) => (0 ≤ i ∧ i ≤ (most : Int), i.toNat)
  | some _ => (False, 0)

def sliceR (P : Program) (t : TypeId) (x : V) (lo hi mx : Option V) : Rec :=
  match x with
  | .str s =>
    match mx with
    | some _ => fail
    | none => let h := bnd hi s.size s.size; let l := bnd lo 0 h.2; must (isStrT P t = true ∧ h.1 ∧ l.1) (.str (s.extract l.2 h.2))
  | .slc _ es =>
    match elemOf P t with
    | none => fail
    | some e =>
      match mx with
      | none => let h := bnd hi es.length es.length; let l := bnd lo 0 h.2
                must (h.1 ∧ l.1 ∧ hasType P e = true ∧ ∀ c ∈ es, c.length = szOf P e) (.slc .shared ((es.take h.2).drop l.2))
      | some m => let m' := bnd (some m) 0 es.length; let h := bnd hi es.length m'.2; let l := bnd lo 0 h.2
                  must (m'.1 ∧ hi.isSome = true ∧ h.1 ∧ l.1 ∧ m'.2 = h.2 ∧ hasType P e = true ∧ ∀ c ∈ es, c.length = szOf P e) (.slc .full ((es.take h.2).drop l.2))
  | .ptr b off =>
    match arrOf P t with
    | none => fail
    | some (n, e) =>
      match mx with
      | some _ => fail
      | none => let h := bnd hi n n; let l := bnd lo 0 h.2
                must (h.1 ∧ l.1 ∧ hasType P e = true ∧ l.2 < n) (.msl b (off + l.2 * szOf P e) (h.2 - l.2) (szOf P e))
  | _ => fail

/-- The elements of a slice, and what of the heap was looked at. -/
def elemsV (H : AHeap) : V → Option (List (List V) × List (Nat × Nat))
  | .slc _ es => some (es, [])
  | .msl b off len size =>
    match H.get b with
    | some (.box cs) => if off + len * size ≤ cs.length then some (chunks size len (cs.drop off), keys b off (len * size)) else none
    | _ => none
  | _ => none

def appendOk (P : Program) (e : TypeId) (es ys : List (List V)) : Prop :=
  hasType P e = true ∧ hasZero P e = true ∧ (zeroCells P e).length = szOf P e ∧ (∀ c ∈ es, c.length = szOf P e) ∧ (∀ c ∈ ys, c.length = szOf P e) ∧
    es.length + ys.length ≤ 9223372036854775807 ∧ (es.length + ys.length) * byOf P e ≤ 140737488355328
def appendR (P : Program) (hint : Hint) (nid : Nat) (t : TypeId) (H : AHeap) (s x : V) : Rec :=
  match elemOf P t, elemsV H x with
  | some e, some (ys, rd) =>
    match s with
    | .slc .full es =>
      match hint with
      | .imm => ⟨appendOk P e es ys, .slc .shared (es ++ ys), rd, []⟩
      | .tip => ⟨appendOk P e es ys, .slc (.tip nid) (es ++ ys), rd, [.new nid (.tip (es.length + ys.length))]⟩
      | .box => ⟨appendOk P e es ys ∧ 0 < ys.length, .msl nid 0 (es.length + ys.length) (szOf P e), rd, [.new nid (.box (es ++ ys).flatten)]⟩
    | .slc (.tip b) es =>
      match H.get b with
      | some (.tip m) => ⟨appendOk P e es ys ∧ m = es.length, .slc (.tip b) (es ++ ys), (b, 0) :: rd, [.tip b (es.length + ys.length)]⟩
      | _ => fail
    | _ => fail
  | _, _ => fail

def minI (x y : Int) : Int := if y < x then y else x
def maxI (x y : Int) : Int := if y > x then y else x
def foldI (f : Int → Int → Int) : IntKind → Int → List V → Option Int
  | _, a, [] => some a
  | k, a, .int k' b :: rest => if k = k' then foldI f k (f a b) rest else none
  | _, _, _ => none

def byteOf? : List V → Option UInt8
  | [.int .u8 n] => some (UInt8.ofNat n.toNat)
  | _ => none
def bytesOf : List (List V) → Option (List UInt8)
  | [] => some []
  | c :: cs => match byteOf? c, bytesOf cs with | some b, some bs => some (b :: bs) | _, _ => none

def convR (P : Program) (H : AHeap) (src dst : TypeId) (x : V) : Rec :=
  match P.underlying src, P.underlying dst, x with
  | some _, some (.int k), .int _ n => yields (.int k (k.wrap n))
  | some _, some .string, .str s => yields (.str s)
  | some (.slice e), some .string, x =>
    match intOfT P e, elemsV H x with
    | some .u8, some (es, rd) => match bytesOf es with | some bs => ⟨True, .str ⟨bs.toArray⟩, rd, []⟩ | none => fail
    | _, _ => fail
  | _, _, _ => fail

def builtinR (P : Program) (hint : Hint) (nid : Nat) (H : AHeap) (b : Builtin) (ts : List TypeId) (args : List V) : Rec :=
  match b, ts, args with
  | .len, [t], [.str s] => must (isStrT P t = true) (.int .i64 s.size)
  | .len, [t], [.slc _ es] => must (isSliceT P t = true) (.int .i64 es.length)
  | .len, [t], [.msl _ _ n _] => must (isSliceT P t = true) (.int .i64 n)
  | .len, [t], [.agg _] => match arrOf P t with | some (n, _) => yields (.int .i64 n) | none => fail
  | .append, [t, t'], [s, x] => if t = t' then appendR P hint nid t H s x else fail
  | .min, _, .int k a :: rest => match foldI minI k a rest with | some m => yields (.int k m) | none => fail
  | .max, _, .int k a :: rest => match foldI maxI k a rest with | some m => yields (.int k m) | none => fail
  | _, _, _ => fail

/-- Keys of a map, and what stands at one. -/
def keyEq : V → V → Option Bool
  | .int k a, .int k' b => if k = k' then some (a == b) else none
  | .str a, .str b => some (a == b)
  | _, _ => none
def mfind (k : V) : List (V × V) → Nat → Option (Option (Nat × V))
  | [], _ => some none
  | (k', v) :: es, i =>
    match keyEq k k' with
    | some true => some (some (i, v))
    | some false => mfind k es (i + 1)
    | none => none
def lookupR (P : Program) (H : AHeap) (t : TypeId) (m k : V) (commaOk : Bool) : Rec :=
  match mapOf P t, m with
  | some (kt, et), .mp b =>
    match H.get b with
    | some (.map es) =>
      match mfind k es 0 with
      | some (some (_, v)) => ⟨isKeyT P kt k = true, if commaOk then .tup [v, .bool true] else v, [(b, 0)], []⟩
      | some none =>
        match zeroV P et with
        | some z => ⟨isKeyT P kt k = true, if commaOk then .tup [ofValue z, .bool false] else ofValue z, [(b, 0)], []⟩
        | none => fail
      | none => fail
    | _ => fail
  | _, _ => fail
def mupR (P : Program) (H : AHeap) (t : TypeId) (m k v : V) : Rec :=
  match mapOf P t, m with
  | some (kt, _), .mp b =>
    match H.get b with
    | some (.map es) =>
      match mfind k es 0 with
      | some (some (i, _)) => ⟨isKeyT P kt k = true, .any, [(b, 0)], [.mset b (es.set i (k, v))]⟩
      | some none => ⟨isKeyT P kt k = true, .any, [(b, 0)], [.mset b (es ++ [(k, v)])]⟩
      | none => fail
    | _ => fail
  | _, _ => fail

def arec (X : Cx) (hint : Hint) (nid : Nat) (ρ : Operand → V) (H : AHeap) : Op → Rec
  | .move x => yields (ρ x)
  | .assign x => yields (ρ x)
  | .pick c a b =>
    match ρ c with
    | .bool t => must ((t = true → (ρ a).gd = true) ∧ (t = false → (ρ b).gd = true)) (pickV t (ρ a).core (ρ b).core)
    | _ => fail
  | .alloc t => ⟨hasType X.P t = true ∧ hasZero X.P t = true, .ptr nid 0, [], [.new nid (.box (zeroCells X.P t))]⟩
  | .box _ x => ⟨(ρ x).flat = true, .ptr nid 0, [], [.new nid (.box (ρ x).cells)]⟩
  | .build t parts =>
    match fillV (placeOf X.P t) (zeroCells X.P t) (parts.toList.map fun p => (p.1, ρ p.2)) with
    | some cs => must (fieldsOk X.P t = true ∧ hasZero X.P t = true) (.agg cs)
    | none => fail
  | .buildSlice t len parts =>
    match elemOf X.P t with
    | none => fail
    | some e =>
      match elemsOf (szOf X.P e) 0 (parts.toList.map fun p => (p.1, ρ p.2)) with
      | none => fail
      | some es =>
        let c := es.length = len ∧ hasType X.P e = true ∧ hasZero X.P e = true ∧ (zeroCells X.P e).length = szOf X.P e ∧ len * szOf X.P e ≤ 16777216
        match hint with
        | .box => ⟨c, .msl nid 0 len (szOf X.P e), [], [.new nid (.box es.flatten)]⟩
        | _ => must c (.slc .full es)
  | .load t a =>
    match ρ a with
    | .ptr b off =>
      match H.get b with
      | some (.box cs) => ⟨loadOk X.P t (cs.drop off), loadV X.P t (cs.drop off), keys b off (if aggOf X.P t then szOf X.P t else 1), []⟩
      | _ => fail
    | .pin cs => must (loadOk X.P t cs) (loadV X.P t cs)
    | _ => fail
  | .store t a x =>
    match ρ a with
    | .ptr b off =>
      match H.get b with
      | some (.box cs) => ⟨hasType X.P t = true ∧ (ρ x).flat = true ∧ (ρ x).cells.length = szOf X.P t ∧ off + szOf X.P t ≤ cs.length, .any, keys b off (szOf X.P t), setsE b off (ρ x).cells⟩
      | _ => fail
    | _ => fail
  | .nilCheck x =>
    match ρ x with
    | .ptr b off => yields (.ptr b off)
    | .pin cs => yields (.pin cs)
    | .fn (.func f) a c => yields (.fn (.func f) a c)
    | _ => fail
  | .fieldAddr t x i =>
    match fieldAt X.P t i, ρ x with
    | some (o, ft), .ptr b off => must (hasType X.P ft = true ∧ szOf X.P ft ≠ 0) (.ptr b (off + o))
    | some (o, ft), .pin cs => must (hasType X.P ft = true ∧ szOf X.P ft ≠ 0) (.pin (cs.drop o))
    | _, _ => fail
  | .field t x i =>
    match fieldAt X.P t i, ρ x with
    | some (o, ft), .agg cs => must (loadOk X.P ft (cs.drop o)) (loadV X.P ft (cs.drop o))
    | _, _ => fail
  | .indexAddr t x ix =>
    match ρ x, ρ ix with
    | .slc _ es, .int _ i =>
      match elemOf X.P t with
      | some e => must (hasType X.P e = true ∧ 0 ≤ i ∧ i < (es.length : Int) ∧ (es.getD i.toNat []).length = szOf X.P e) (.pin (es.getD i.toNat []))
      | none => fail
    | .msl b off len size, .int _ i =>
      match elemOf X.P t with
      | some e => must (hasType X.P e = true ∧ 0 ≤ i ∧ i < (len : Int) ∧ size = szOf X.P e) (.ptr b (off + i.toNat * size))
      | none => fail
    | .ptr b off, .int _ i =>
      match arrOf X.P t with
      | some (n, e) => must (hasType X.P e = true ∧ 0 ≤ i ∧ i < (n : Int)) (.ptr b (off + i.toNat * szOf X.P e))
      | none => fail
    | .pin cs, .int _ i =>
      match arrOf X.P t with
      | some (n, e) => must (hasType X.P e = true ∧ 0 ≤ i ∧ i < (n : Int)) (.pin (cs.drop (i.toNat * szOf X.P e)))
      | none => fail
    | _, _ => fail
  | .index t x ix =>
    match ρ x, ρ ix with
    | .str s, .int _ i => must (isStrT X.P t = true ∧ 0 ≤ i ∧ i < (s.size : Int)) (.int .u8 ((s.data.getD i.toNat 0).toNat))
    | .agg cs, .int _ i =>
      match arrOf X.P t with
      | some (n, e) => must (hasType X.P e = true ∧ 0 ≤ i ∧ i < (n : Int) ∧ loadOk X.P e (cs.drop (i.toNat * szOf X.P e))) (loadV X.P e (cs.drop (i.toNat * szOf X.P e)))
      | none => fail
    | _, _ => fail
  | .binOp op t x y _ => binR X.P op t x y (ρ x) (ρ y)
  | .unOp op _ x =>
    match op, ρ x with
    | .not, .bool b => yields (.bool (!b))
    | .neg, .int k n => yields (.int k (k.wrap (0 - n)))
    | _, _ => fail
  | .convert src dst x => convR X.P H src dst (ρ x)
  | .makeMap _ none => ⟨True, .mp nid, [], [.new nid (.map [])]⟩
  | .lookup t m k ok => lookupR X.P H t (ρ m) (ρ k) ok
  | .mapUpdate t m k v => mupR X.P H t (ρ m) (ρ k) (ρ v)
  | .insert t m k v => mupR X.P H t (ρ m) (ρ k) (ρ v)
  | .makeFunc f first caps => must ((∀ x ∈ first.toList, True) ∧ ∀ x ∈ caps.toList, True) (.fn f (first.toList.map ρ) (caps.toList.map ρ))
  | .makeSlice t l c =>
    match elemOf X.P t, ρ l, ρ c with
    | some e, .int _ n, .int _ m => ⟨hasType X.P e = true ∧ hasZero X.P e = true ∧ (zeroCells X.P e).length = szOf X.P e ∧ 0 ≤ n ∧ n = m ∧ (byOf X.P e : Int) * m ≤ 281474976710656 ∧ m ≤ 9223372036854775807,
        .msl nid 0 n.toNat (szOf X.P e), [], [.new nid (.box (List.replicate n.toNat (zeroCells X.P e)).flatten)]⟩
    | _, _, _ => fail
  | .slice t x lo hi mx => sliceR X.P t (ρ x) (lo.map ρ) (hi.map ρ) (mx.map ρ)
  | .extract x i =>
    match ρ x with
    | .tup vs => must (i < vs.length) (vs.getD i .any)
    | _ => fail
  | .call c =>
    match c.callee with
    | .builtin b => builtinR X.P hint nid H b c.argTypes.toList (c.args.toList.map ρ)
    | _ => fail
  | _ => fail

end Go.Alt

/- The abstract layer, part 5: each operation does in memory what its record says. No condition. -/
namespace Go.Alt
open Go Go.RowKit

/-- The operation runs, and what it leaves is what the record says. -/
def Does (X : Cx) (w0 : Base) (B : Nat) (ρc : Operand → Value) (o : Oper) (μ : Mem) (H : AHeap) (w : World) (r : Rec) : Prop :=
  ∃ x n w' μ', (execOp ρc o).run X.P w = .ok n w' ∧ (n = .value x ∨ (n = .skip ∧ x = undef)) ∧ VRep μ' r.val x ∧ Ext μ μ' ∧ Sim w0 B μ' (apps r.effs H) w'

section
variable {X : Cx} {w0 : Base} {w : World} {B : Nat} {μ : Mem} {H : AHeap} {ρ : Operand → V} {ρc : Operand → Value}

theorem does_pure {o : Oper} {x : Value} {v : V} (hs : Sim w0 B μ H w) (hr : (execOp ρc o).run X.P w = .ok (.value x) w) (hv : VRep μ v x) {p : Prop} {rd : List (Nat × Nat)} :
    Does X w0 B ρc o μ H w ⟨p, v, rd, []⟩ := ⟨x, _, w, μ, hr, .inl rfl, hv, Ext.refl μ, hs⟩

theorem vrep_core {v : V} {x : Value} (h : VRep μ v x) (hg : v.gd = true) : VRep μ v.core x := by
  cases h with
  | opt g v x h _ => exact h hg
  | any x => exact .any x
  | bool b => exact .bool b
  | int k n => exact .int k n
  | str s => exact .str s
  | fn f fs cs fs' cs' hff hc h1 h2 => exact .fn f fs cs fs' cs' hff hc h1 h2
  | nilFn => exact .nilFn
  | nilPtr => exact .nilPtr
  | nilIf => exact .nilIf
  | con => exact .con x
  | ptr b off c h => exact .ptr b off c h
  | pin cs c off xs hc hr => exact .pin cs c off xs hc hr
  | msl b off len size c cap h hcap => exact .msl b off len size c cap h hcap
  | mp b c h => exact .mp b c h
  | slcNil o => exact .slcNil o
  | slc o es c off len cap sz xs hlen hcap hsz hc hr ho => exact .slc o es c off len cap sz xs hlen hcap hsz hc hr ho
  | agg cs cs' hl h h1 => exact .agg cs cs' hl h h1
  | tup cs cs' hl h => exact .tup cs cs' hl h
  | yld b c L h => exact .yld b c L h

theorem vrep_pick {t : Bool} {a b : V} {x y : Value} (ha : t = true → VRep μ a x) (hb : t = false → VRep μ b y) : VRep μ (pickV t a b) (if t then x else y) := by
  have gen : VRep μ (if t then a else b) (if t then x else y) := by cases t <;> simp_all
  cases a <;> cases b <;> first
    | exact gen
    | (simp only [pickV]; cases t <;> simp_all <;> (first | (have h := ha; cases h; exact .bool _) | (have h := hb; cases h; exact .bool _)))

theorem ofCell_rep (v : Value) : VRep μ (ofCell v) v := by
  unfold ofCell
  split
  · exact .bool _
  · exact .int _ _
  · exact .str _
  · exact .nilFn
  · exact .nilPtr
  · exact .nilIf
  · exact .slcNil _
  · exact .con _
theorem ofCells_rep (vs : List Value) : VReps μ (vs.map ofCell) vs := by
  refine ⟨by simp, fun i hi => ?_⟩
  have hi' : i < vs.length := by simpa using hi
  simpa [List.getD, List.getElem?_map, List.getElem?_eq_getElem hi'] using ofCell_rep vs[i]
theorem ofValue_rep (v : Value) : VRep μ (ofValue v) v := by
  unfold ofValue
  split
  · rename_i cs
    split
    · rename_i h
      have := ofCells_rep (μ := μ) cs.toList
      have e : Value.agg cs = .agg cs.toList.toArray := by simp
      rw [e]
      exact .agg _ _ this.1 this.2 (fun x hx => by
        have := Array.all_eq_true_iff_forall_mem.1 h x (by simpa using hx)
        exact this)
    · exact .con _
  · exact ofCell_rep v

theorem zeroV_run {P : Program} {t : TypeId} {v : Value} (h : zeroV P t = some v) (w : World) : (zeroValue t).run P w = .ok v w := by
  unfold zeroV at h
  have : ∀ w : World, (zeroValue t).run P w = match P.info? t with | none => .halt (.stuck "no such type") w | some i => match i.zero with | some v => .ok v w | none => .halt (.unsupported (.resourceLimit "a value of more than 2^22 cells")) w := by
    intro w
    unfold zeroValue typeInfo
    simp only [Sem.run_bind, run_program, Result.andThen_ok]
    cases hi : P.info? t with
    | none => simp [Result.andThen]
    | some i =>
      simp only [Sem.run_pure, Result.andThen_ok]
      cases i.zero <;> simp
  rw [this] at h ⊢
  cases hi : P.info? t with
  | none => simp [hi] at h
  | some i =>
    simp only [hi] at h ⊢
    cases hz : i.zero with
    | none => simp [hz] at h
    | some z => simp [hz] at h ⊢; exact h
theorem zeroV_info {P : Program} {t : TypeId} {v : Value} (h : zeroV P t = some v) : ∃ i, P.info? t = some i ∧ i.zero = some v := by
  have hr := zeroV_run h default
  unfold zeroValue typeInfo at hr
  simp only [Sem.run_bind, run_program, Result.andThen_ok] at hr
  cases hi : P.info? t with
  | none => simp [hi, Result.andThen] at hr
  | some i =>
    simp only [hi, Sem.run_pure, Result.andThen_ok] at hr
    cases hz : i.zero with
    | none => simp [hz] at hr
    | some z => simp [hz] at hr; exact ⟨i, rfl, by rw [hz, hr]⟩

theorem hasZero_spec {P : Program} {t : TypeId} (h : hasZero P t = true) : ∃ v, zeroV P t = some v ∧ (∀ w, (zeroValue t).run P w = .ok v w) ∧ VReps μ (zeroCells P t) v.cells.toList ∧ ∀ x ∈ v.cells.toList, x.oneCell' = true := by
  unfold hasZero at h
  cases hz : zeroV P t with
  | none => simp [hz] at h
  | some v =>
    simp only [hz] at h
    refine ⟨v, rfl, zeroV_run hz, ?_, fun x hx => ?_⟩
    · simp only [zeroCells, hz]
      exact ofCells_rep _
    · exact Array.all_eq_true_iff_forall_mem.1 h x (by simpa using hx)

/-- A new box. -/
theorem does_newBox (hs : Sim w0 B μ H w) {nid : Nat} (hid : H.get nid = none) {o : Oper} {t : TypeId} {cs : List V} {vs : List Value} (hr : VReps μ cs vs) (h1 : ∀ x ∈ vs, x.oneCell' = true)
    (hrun : (execOp ρc o).run X.P w = .ok (.value (.pointer (some ⟨w.heap.size, 0, none⟩))) (w.alloc (.cells vs.toArray t))) {p : Prop} {rd : List (Nat × Nat)} :
    Does X w0 B ρc o μ H w ⟨p, .ptr nid 0, rd, [.new nid (.box cs)]⟩ := by
  obtain ⟨e, hs'⟩ := hs.newBox hid cs vs t hr.pre h1
  exact ⟨_, _, _, _, hrun, .inl rfl, .ptr nid 0 _ (by simp [Mem.newBox]), e, hs'⟩

theorem does_move (hs : Sim w0 B μ H w) {o : Oper} {x : Operand} (ho : o.op = .move x) (hx : VRep μ (ρ x) (ρc x)) (hint : Hint) (nid : Nat) : Does X w0 B ρc o μ H w (arec X hint nid ρ H o.op) := by
  rw [ho]; exact does_pure hs (by simp [execOp, ho]) hx
theorem does_assign (hs : Sim w0 B μ H w) {o : Oper} {x : Operand} (ho : o.op = .assign x) (hx : VRep μ (ρ x) (ρc x)) (hint : Hint) (nid : Nat) : Does X w0 B ρc o μ H w (arec X hint nid ρ H o.op) := by
  rw [ho]; exact does_pure hs (by simp [execOp, ho]) hx

theorem does_pick (hs : Sim w0 B μ H w) {o : Oper} {c a b : Operand} (ho : o.op = .pick c a b) (hρ : ∀ x, VRep μ (ρ x) (ρc x)) (hint : Hint) (nid : Nat) (hok : (arec X hint nid ρ H o.op).ok) :
    Does X w0 B ρc o μ H w (arec X hint nid ρ H o.op) := by
  rw [ho] at hok ⊢
  simp only [arec] at hok ⊢
  have hc := hρ c
  generalize ρ c = vc at *
  split at hok
  · rename_i t
    cases hcc : ρc c <;> rw [hcc] at hc <;> cases hc
    refine does_pure hs (x := if t then ρc a else ρc b) ?_ ?_
    · simp [execOp, ho, asBool, hcc]
    · exact vrep_pick (fun h => vrep_core (hρ a) (hok.1 h)) (fun h => vrep_core (hρ b) (hok.2 h))
  · exact hok.elim

theorem does_alloc (hs : Sim w0 B μ H w) {o : Oper} {t : TypeId} (ho : o.op = .alloc t) (hint : Hint) {nid : Nat} (hid : H.get nid = none) (hok : (arec X hint nid ρ H o.op).ok) :
    Does X w0 B ρc o μ H w (arec X hint nid ρ H o.op) := by
  rw [ho] at hok ⊢
  simp only [arec] at hok ⊢
  obtain ⟨v, hz, hrun, hr, h1⟩ := hasZero_spec (μ := μ) hok.2
  exact does_newBox (t := t) hs hid hr h1 (by simp [execOp, ho, Instr.alloc, hrun, newVar, newRow])

theorem does_box (hs : Sim w0 B μ H w) {o : Oper} {t : TypeId} {x : Operand} (ho : o.op = .box t x) (hx : VRep μ (ρ x) (ρc x)) (hint : Hint) {nid : Nat} (hid : H.get nid = none) (hok : (arec X hint nid ρ H o.op).ok) :
    Does X w0 B ρc o μ H w (arec X hint nid ρ H o.op) := by
  rw [ho] at hok ⊢
  simp only [arec] at hok ⊢
  obtain ⟨hr, h1⟩ := V.cells_rep hx hok
  exact does_newBox (t := t) hs hid hr h1 (by simp [execOp, ho, Instr.box, newVar, newRow])

/-- Loads. -/
theorem preps_drop {cs : List V} {xs : List Value} (h : PReps μ cs xs) (off : Nat) : ∀ j, j < (cs.drop off).length → VRep μ ((cs.drop off).getD j .any) (xs.getD (off + j) undef) := by
  intro j hj
  have := h.2 (off + j) (by simp at hj; omega)
  simpa [List.getD, List.getElem?_drop] using this

theorem does_load (hs : Sim w0 B μ H w) {o : Oper} {t : TypeId} {a : Operand} (ho : o.op = .load t a) (ha : VRep μ (ρ a) (ρc a)) (hint : Hint) (nid : Nat) (hok : (arec X hint nid ρ H o.op).ok) :
    Does X w0 B ρc o μ H w (arec X hint nid ρ H o.op) := by
  rw [ho] at hok ⊢
  simp only [arec] at hok ⊢
  generalize ρ a = va at *
  split at hok
  · rename_i b off
    cases hca : ρc a <;> rw [hca] at ha <;> cases ha
    rename_i c hb
    split at hok
    · rename_i cs hg
      obtain ⟨vs, e, k1, k2, k3⟩ := hs.boxCells hb hg
      obtain ⟨x, hrun, hx⟩ := run_loadVar_cells (P := X.P) (w := w) (μ := μ) (t := t) (cs := cs.drop off) (c := c) (o := off) (fun j => vs.getD (off + j) undef) hok
        (fun j hj => by
          have hlt : off + j < vs.length := by have := k2.1; simp at hj; omega
          rw [cell_of_row w c (off + j) vs.toArray e (0, 0) k1]
          have : vs[off + j]? = some vs[off + j] := List.getElem?_eq_getElem hlt
          refine ⟨by simp [List.getD, this], ?_⟩
          simp only [List.getD, this, Option.getD_some]
          exact k3 _ (List.getElem_mem hlt)) (preps_drop k2 off)
      exact does_pure hs (by simp [execOp, ho, hca, Instr.loadAt, Instr.sureAddr, hrun]) hx
    · exact hok.elim
  · rename_i cs
    cases hca : ρc a <;> rw [hca] at ha <;> cases ha
    rename_i c off xs hc hr
    obtain ⟨x, hrun, hx⟩ := run_loadVar_cells (P := X.P) (w := w) (μ := μ) (t := t) (cs := cs) (c := c) (o := off) xs hok (fun j hj => hs.imm _ _ _ (hc j hj)) hr
    exact does_pure hs (by simp [execOp, ho, hca, Instr.loadAt, Instr.sureAddr, hrun]) hx
  · exact hok.elim

theorem does_store (hs : Sim w0 B μ H w) {o : Oper} {t : TypeId} {a x : Operand} (ho : o.op = .store t a x) (hρ : ∀ x, VRep μ (ρ x) (ρc x)) (hint : Hint) (nid : Nat) (hok : (arec X hint nid ρ H o.op).ok) :
    Does X w0 B ρc o μ H w (arec X hint nid ρ H o.op) := by
  rw [ho] at hok ⊢
  simp only [arec] at hok ⊢
  have ha := hρ a
  generalize ρ a = va at *
  split at hok
  · rename_i b off
    cases hca : ρc a <;> rw [hca] at ha <;> cases ha
    rename_i c hb
    split at hok
    · rename_i cs hg
      obtain ⟨k1, k2, k3, k4⟩ := hok
      obtain ⟨hr, h1⟩ := V.cells_rep (hρ x) k2
      obtain ⟨w', hrun, hs'⟩ := run_storeCells_box (P := X.P) (off := off) (ρ x).cells (ρc x).cells.toList 0 H w hs hb hr h1 ⟨cs, hg, by omega⟩
      have hsz : (ρc x).cells.size = szOf X.P t := by have := hr.1; simp at this; omega
      refine ⟨undef, .skip, w', μ, ?_, .inr ⟨rfl, rfl⟩, .any _, Ext.refl μ, ?_⟩
      · simp [execOp, ho, hca, Instr.storeAt, Instr.sureAddr, storeVar, szOf_run k1, hsz, hrun]
      · rw [apps_setsE]
        simpa using hs'
    · exact hok.elim
  · exact hok.elim

theorem does_nilCheck (hs : Sim w0 B μ H w) {o : Oper} {x : Operand} (ho : o.op = .nilCheck x) (hx : VRep μ (ρ x) (ρc x)) (hint : Hint) (nid : Nat) (hok : (arec X hint nid ρ H o.op).ok) :
    Does X w0 B ρc o μ H w (arec X hint nid ρ H o.op) := by
  rw [ho] at hok ⊢
  simp only [arec] at hok ⊢
  generalize ρ x = v at *
  split at hok
  · cases hcx : ρc x <;> have hx' := hx <;> rw [hcx] at hx' <;> cases hx'
    exact does_pure hs (x := ρc x) (by simp [execOp, ho, hcx]) hx
  · cases hcx : ρc x <;> have hx' := hx <;> rw [hcx] at hx' <;> cases hx'
    exact does_pure hs (x := ρc x) (by simp [execOp, ho, hcx]) hx
  · cases hcx : ρc x <;> have hx' := hx <;> rw [hcx] at hx' <;> cases hx'
    exact does_pure hs (x := ρc x) (by simp [execOp, ho, hcx]) hx
  · exact hok.elim

theorem fieldAt_spec {P : Program} {t : TypeId} {i o : Nat} {ft : TypeId} (h : fieldAt P t i = some (o, ft)) : ∃ fs f, P.underlying t = some (.struct fs) ∧ fs[i]? = some f ∧ f.offset = o ∧ f.type = ft := by
  unfold fieldAt at h
  split at h
  · rename_i fs hu
    cases hf : fs[i]? with
    | none => simp [hf] at h
    | some f => simp [hf] at h; exact ⟨fs, f, hu, hf, h.1, h.2⟩
  · cases h

theorem pin_drop {cs : List V} {c off : Nat} {xs : Nat → Value} (hc : ∀ j, j < cs.length → μ.imm c (off + j) = some (xs j)) (hr : ∀ j, j < cs.length → VRep μ (cs.getD j .any) (xs j)) (k : Nat) :
    VRep μ (.pin (cs.drop k)) (.pointer (some ⟨c, off + k, none⟩)) := by
  refine .pin _ c (off + k) (fun j => xs (k + j)) (fun j hj => ?_) (fun j hj => ?_)
  · have := hc (k + j) (by simp at hj; omega)
    rwa [← Nat.add_assoc] at this
  · have := hr (k + j) (by simp at hj; omega)
    simpa [List.getD, List.getElem?_drop] using this

theorem does_fieldAddr (hs : Sim w0 B μ H w) {o : Oper} {t : TypeId} {x : Operand} {i : Nat} (ho : o.op = .fieldAddr t x i) (hx : VRep μ (ρ x) (ρc x)) (hint : Hint) (nid : Nat) (hok : (arec X hint nid ρ H o.op).ok) :
    Does X w0 B ρc o μ H w (arec X hint nid ρ H o.op) := by
  rw [ho] at hok ⊢
  simp only [arec] at hok ⊢
  generalize ρ x = v at *
  split at hok
  · rename_i fo ft b off hf
    obtain ⟨fs, f, hu, hfi, rfl, rfl⟩ := fieldAt_spec hf
    cases hcx : ρc x <;> rw [hcx] at hx <;> cases hx
    rename_i c hb
    refine does_pure hs (x := .pointer (some ⟨c, off + f.offset, none⟩)) ?_ (.ptr _ _ _ hb)
    have h2 : szOf X.P f.type ≠ 0 := hok.2
    simp [execOp, ho, Instr.fieldAt, run_underlying hu, hfi, hcx, Instr.sureAddr, fieldPlace, szOf_run hok.1, h2, addr_add]
  · rename_i fo ft cs hf
    obtain ⟨fs, f, hu, hfi, rfl, rfl⟩ := fieldAt_spec hf
    cases hcx : ρc x <;> rw [hcx] at hx <;> cases hx
    rename_i c off xs hc hr
    refine does_pure hs (x := .pointer (some ⟨c, off + f.offset, none⟩)) ?_ (pin_drop hc hr _)
    have h2 : szOf X.P f.type ≠ 0 := hok.2
    simp [execOp, ho, Instr.fieldAt, run_underlying hu, hfi, hcx, Instr.sureAddr, fieldPlace, szOf_run hok.1, h2, addr_add]
  · exact hok.elim

/-- A part of a value's cells. -/
theorem run_part {t : TypeId} {cs : List V} {vs : List Value} (hr : VReps μ cs vs) (h1 : ∀ x ∈ vs, x.oneCell' = true) (off : Nat) (hok : loadOk X.P t (cs.drop off)) :
    ∃ x, (part t vs.toArray off).run X.P w = .ok x w ∧ VRep μ (loadV X.P t (cs.drop off)) x := by
  obtain ⟨hu, ht, hl⟩ := hok
  unfold part loadV
  simp only [Sem.run_bind, isAgg_run hu, Result.andThen_ok]
  have hlen := hr.1
  by_cases ha : aggOf X.P t = true
  · simp only [ha, if_true] at hl ⊢
    simp only [Sem.run_bind, szOf_run ht, Result.andThen_ok, Sem.run_pure]
    have e : Value.agg (vs.toArray.extract off (off + szOf X.P t)) = .agg ((vs.drop off).take (szOf X.P t)).toArray := by
      congr 1
      apply Array.ext'
      simp
    rw [e]
    have := (hr.drop off).take (szOf X.P t)
    exact ⟨_, rfl, .agg _ _ this.1 this.2 (fun x hx => h1 x (List.mem_of_mem_drop (List.mem_of_mem_take hx)))⟩
  · simp only [ha] at hl ⊢
    have hlt : off < vs.length := by simp at hl; omega
    have hx : vs[off]? = some vs[off] := List.getElem?_eq_getElem hlt
    refine ⟨vs[off], ?_, ?_⟩
    · simp [hx]
    · have := hr.2 off (by omega)
      simpa [List.getD, List.getElem?_drop, hx] using this

theorem does_field (hs : Sim w0 B μ H w) {o : Oper} {t : TypeId} {x : Operand} {i : Nat} (ho : o.op = .field t x i) (hx : VRep μ (ρ x) (ρc x)) (hint : Hint) (nid : Nat) (hok : (arec X hint nid ρ H o.op).ok) :
    Does X w0 B ρc o μ H w (arec X hint nid ρ H o.op) := by
  rw [ho] at hok ⊢
  simp only [arec] at hok ⊢
  generalize ρ x = v at *
  split at hok
  · rename_i fo ft cs hf
    obtain ⟨fs, f, hu, hfi, rfl, rfl⟩ := fieldAt_spec hf
    cases hcx : ρc x <;> rw [hcx] at hx <;> cases hx
    rename_i cs' h1 hl h
    obtain ⟨y, hrun, hy⟩ := run_part (X := X) (w := w) (vs := cs') ⟨hl, h⟩ h1 f.offset hok
    exact does_pure hs (by simp [execOp, ho, Instr.field, run_underlying hu, hfi, hcx, asAgg, hrun]) hy
  · exact hok.elim

theorem elemOf_spec {P : Program} {t e : TypeId} (h : elemOf P t = some e) : P.underlying t = some (.slice e) := by
  unfold elemOf at h
  split at h
  · injection h with h; subst h; assumption
  · cases h
theorem arrOf_spec {P : Program} {t e : TypeId} {n : Nat} (h : arrOf P t = some (n, e)) : P.underlying t = some (.array n e) := by
  unfold arrOf at h
  split at h
  · injection h with h; injection h with h1 h2; subst h1; subst h2; assumption
  · cases h

theorem vrep_slc {o : Own} {es : List (List V)} {x : Value} (h : VRep μ (.slc o es) x) : (es = [] ∧ x = .slice none 0 0) ∨
    ∃ (c off cap sz : Nat) (xs : Nat → Nat → Value), x = .slice (some ⟨c, off, none⟩) es.length cap ∧ es.length ≤ cap ∧ (∀ i, i < es.length → (es.getD i []).length = sz) ∧
      (∀ i j, i < es.length → j < sz → μ.imm c (off + i * sz + j) = some (xs i j)) ∧ (∀ i j, i < es.length → j < sz → VRep μ ((es.getD i []).getD j .any) (xs i j)) ∧ OwnOk μ o c off es.length cap sz := by
  cases h with
  | slcNil => exact .inl ⟨rfl, rfl⟩
  | slc _ _ c off len cap sz xs hlen hcap hsz hc hr ho =>
    subst hlen
    exact .inr ⟨c, off, cap, sz, xs, rfl, hcap, hsz, hc, hr, ho⟩

theorem slc_at {es : List (List V)} {c off len sz : Nat} {xs : Nat → Nat → Value}
    (hsz : ∀ i, i < len → (es.getD i []).length = sz) (hc : ∀ i j, i < len → j < sz → μ.imm c (off + i * sz + j) = some (xs i j))
    (hr : ∀ i j, i < len → j < sz → VRep μ ((es.getD i []).getD j .any) (xs i j)) {i : Nat} (hi : i < len) :
    VRep μ (.pin (es.getD i [])) (.pointer (some ⟨c, off + i * sz, none⟩)) :=
  .pin _ c _ (xs i) (fun j hj => hc i j hi (by rw [hsz i hi] at hj; exact hj)) (fun j hj => hr i j hi (by rw [hsz i hi] at hj; exact hj))

theorem does_indexAddr (hs : Sim w0 B μ H w) {o : Oper} {t : TypeId} {x ix : Operand} (ho : o.op = .indexAddr t x ix) (hx : VRep μ (ρ x) (ρc x)) (hi : VRep μ (ρ ix) (ρc ix)) (hint : Hint) (nid : Nat) (hok : (arec X hint nid ρ H o.op).ok) :
    Does X w0 B ρc o μ H w (arec X hint nid ρ H o.op) := by
  rw [ho] at hok ⊢
  simp only [arec] at hok ⊢
  generalize ρ x = v at *
  generalize ρ ix = vi at *
  split at hok
  · rename_i own es k i
    cases hci : ρc ix <;> rw [hci] at hi <;> cases hi
    split at hok
    · rename_i e he
      have hu := elemOf_spec he
      obtain ⟨h1, h2, h3, h4⟩ := hok
      rcases vrep_slc hx with ⟨rfl, _⟩ | ⟨c, off, cap, sz, xs, hcx, hcap, hsz, hc, hr, hown⟩
      · simp at h3; omega
      · have hlt : i.toNat < es.length := by omega
        have hszz : sz = szOf X.P e := by rw [← hsz i.toNat hlt]; exact h4
        subst hszz
        refine does_pure hs (x := .pointer (some ⟨c, off + i.toNat * szOf X.P e, none⟩)) ?_ (slc_at hsz hc hr hlt)
        have h3' : i < (es.length : Int) := h3
        simp [execOp, ho, Instr.indexAt, hci, asIntOf, hcx, run_underlying hu, h2, h3', szOf_run h1, addr_add]
    · exact hok.elim
  · rename_i b off len size k i
    cases hci : ρc ix <;> rw [hci] at hi <;> cases hi
    split at hok
    · rename_i e he
      have hu := elemOf_spec he
      obtain ⟨h1, h2, h3, h4⟩ := hok
      cases hcx : ρc x <;> rw [hcx] at hx <;> cases hx
      rename_i cap c hb hcap
      subst h4
      refine does_pure hs (x := .pointer (some ⟨c, off + i.toNat * szOf X.P e, none⟩)) ?_ (.ptr _ _ _ hb)
      simp [execOp, ho, Instr.indexAt, hci, asIntOf, hcx, run_underlying hu, h2, h3, szOf_run h1, addr_add]
    · exact hok.elim
  · rename_i b off k i
    cases hci : ρc ix <;> rw [hci] at hi <;> cases hi
    split at hok
    · rename_i n e he
      have hu := arrOf_spec he
      obtain ⟨h1, h2, h3⟩ := hok
      cases hcx : ρc x <;> rw [hcx] at hx <;> cases hx
      rename_i c hb
      refine does_pure hs (x := .pointer (some ⟨c, off + i.toNat * szOf X.P e, none⟩)) ?_ (.ptr _ _ _ hb)
      simp [execOp, ho, Instr.indexAt, hci, asIntOf, hcx, run_underlying hu, Instr.sureAddr, h2, h3, szOf_run h1, addr_add]
    · exact hok.elim
  · rename_i cs k i
    cases hci : ρc ix <;> rw [hci] at hi <;> cases hi
    split at hok
    · rename_i n e he
      have hu := arrOf_spec he
      obtain ⟨h1, h2, h3⟩ := hok
      cases hcx : ρc x <;> rw [hcx] at hx <;> cases hx
      rename_i c off xs hc hr
      refine does_pure hs (x := .pointer (some ⟨c, off + i.toNat * szOf X.P e, none⟩)) ?_ (pin_drop hc hr _)
      simp [execOp, ho, Instr.indexAt, hci, asIntOf, hcx, run_underlying hu, Instr.sureAddr, h2, h3, szOf_run h1, addr_add]
    · exact hok.elim
  · exact hok.elim

theorem isStrT_spec {P : Program} {t : TypeId} (h : isStrT P t = true) : P.underlying t = some .string := by
  unfold isStrT at h
  split at h
  · assumption
  · cases h

theorem does_index (hs : Sim w0 B μ H w) {o : Oper} {t : TypeId} {x ix : Operand} (ho : o.op = .index t x ix) (hx : VRep μ (ρ x) (ρc x)) (hi : VRep μ (ρ ix) (ρc ix)) (hint : Hint) (nid : Nat) (hok : (arec X hint nid ρ H o.op).ok) :
    Does X w0 B ρc o μ H w (arec X hint nid ρ H o.op) := by
  rw [ho] at hok ⊢
  simp only [arec] at hok ⊢
  generalize ρ x = v at *
  generalize ρ ix = vi at *
  split at hok
  · rename_i s k i
    cases hci : ρc ix <;> rw [hci] at hi <;> cases hi
    cases hcx : ρc x <;> rw [hcx] at hx <;> cases hx
    obtain ⟨h1, h2, h3⟩ := hok
    have hu := isStrT_spec h1
    have hlt : i.toNat < s.size := by omega
    refine does_pure hs (x := .int .u8 ((s.data.getD i.toNat 0).toNat)) ?_ (.int _ _)
    have hget : s[i.toNat]? = some s[i.toNat] := by simp [hlt]
    have hd : s.data.getD i.toNat 0 = s[i.toNat] := by simp only [Array.getD]; exact dif_pos hlt
    simp [execOp, ho, Instr.index, hci, asIntOf, hcx, run_underlying hu, h2, hget, hd]
  · rename_i cs k i
    cases hci : ρc ix <;> rw [hci] at hi <;> cases hi
    split at hok
    · rename_i n e he
      have hu := arrOf_spec he
      obtain ⟨h1, h2, h3, h4⟩ := hok
      cases hcx : ρc x <;> rw [hcx] at hx <;> cases hx
      rename_i cs' hone hl hr
      obtain ⟨y, hrun, hy⟩ := run_part (X := X) (w := w) (vs := cs') ⟨hl, hr⟩ hone (i.toNat * szOf X.P e) h4
      exact does_pure hs (by simp [execOp, ho, Instr.index, hci, asIntOf, hcx, run_underlying hu, h2, h3, szOf_run h1, hrun]) hy
    · exact hok.elim
  · exact hok.elim

theorem does_unOp (hs : Sim w0 B μ H w) {o : Oper} {op : UnOp} {t : TypeId} {x : Operand} (ho : o.op = .unOp op t x) (hx : VRep μ (ρ x) (ρc x)) (hint : Hint) (nid : Nat) (hok : (arec X hint nid ρ H o.op).ok) :
    Does X w0 B ρc o μ H w (arec X hint nid ρ H o.op) := by
  rw [ho] at hok ⊢
  simp only [arec] at hok ⊢
  generalize ρ x = v at *
  split at hok
  · cases hcx : ρc x <;> rw [hcx] at hx <;> cases hx
    exact does_pure hs (by simp [execOp, ho, Op.unary, hcx]) (.bool _)
  · cases hcx : ρc x <;> rw [hcx] at hx <;> cases hx
    exact does_pure hs (by simp [execOp, ho, Op.unary, hcx, Op.intArith]) (.int _ _)
  · exact hok.elim

theorem does_extract (hs : Sim w0 B μ H w) {o : Oper} {x : Operand} {i : Nat} (ho : o.op = .extract x i) (hx : VRep μ (ρ x) (ρc x)) (hint : Hint) (nid : Nat) (hok : (arec X hint nid ρ H o.op).ok) :
    Does X w0 B ρc o μ H w (arec X hint nid ρ H o.op) := by
  rw [ho] at hok ⊢
  simp only [arec] at hok ⊢
  generalize ρ x = v at *
  split at hok
  · rename_i vs
    cases hcx : ρc x <;> rw [hcx] at hx <;> cases hx
    rename_i cs' hl hr
    have hi : i < vs.length := hok
    have hg : cs'[i]? = some (cs'[i]'(by omega)) := List.getElem?_eq_getElem (by omega)
    refine does_pure hs (x := cs'[i]'(by omega)) (by simp [execOp, ho, Instr.extract, hcx, hg]) ?_
    have := hr i hi
    simpa [List.getD, hg] using this
  · exact hok.elim

theorem does_makeFunc (hs : Sim w0 B μ H w) {o : Oper} {f : Fn} {first caps : Array Operand} (ho : o.op = .makeFunc f first caps) (hρ : ∀ x, VRep μ (ρ x) (ρc x)) (hint : Hint) (nid : Nat) :
    Does X w0 B ρc o μ H w (arec X hint nid ρ H o.op) := by
  rw [ho]
  simp only [arec]
  have hm : ∀ l : List Operand, ∀ i, i < (l.map ρ).length → VRep μ ((l.map ρ).getD i .any) ((l.map ρc).getD i undef) := by
    intro l i hi
    have hi' : i < l.length := by simpa using hi
    simpa [List.getD, List.getElem?_map, List.getElem?_eq_getElem hi'] using hρ l[i]
  refine does_pure hs (x := .func f (first.toList.map ρc).toArray (caps.toList.map ρc).toArray) ?_ (.fn _ _ _ _ _ (by simp) (by simp) (hm _) (hm _))
  simp only [execOp, ho, Instr.makeFunc, Sem.run_bind, Sem.run_pure, Result.andThen_ok]
  congr 2
  congr 1 <;> (apply Array.ext'; simp)

end
end Go.Alt

/- The abstract layer, part 6: literals, arithmetic, comparison, conversion. No condition. -/
namespace Go.Alt
open Go Go.RowKit

section
variable {X : Cx} {w0 : Base} {w : World} {B : Nat} {μ : Mem} {H : AHeap} {ρ : Operand → V} {ρc : Operand → Value}

/-- Cells set one by one from a place on. -/
theorem foldl_splice (off : Nat) : ∀ (vs : List Value) (k : Nat) (cur : Array Value), off + k + vs.length ≤ cur.size →
    ((vs.zipIdx k).foldl (fun cs (p : Value × Nat) => cs.setIfInBounds (off + p.2) p.1) cur).toList = cur.toList.take (off + k) ++ vs ++ cur.toList.drop (off + k + vs.length)
  | [], k, cur, h => by simp
  | v :: vs, k, cur, h => by
    simp only [List.length_cons] at h
    simp only [List.zipIdx_cons, List.foldl_cons]
    rw [foldl_splice off vs (k + 1) (cur.setIfInBounds (off + k) v) (by simp; omega)]
    simp only [Array.toList_setIfInBounds, List.length_cons]
    have hl : off + k < cur.toList.length := by simp; omega
    have hA : (cur.toList.take (off + k)).length = off + k := by rw [List.length_take]; omega
    rw [List.set_eq_take_append_cons_drop, if_pos hl]
    have e1 : off + (k + 1) = (cur.toList.take (off + k)).length + 1 := by omega
    have e2 : off + (k + 1) + vs.length = (cur.toList.take (off + k)).length + (vs.length + 1) := by omega
    rw [e2, e1, List.take_length_add_append, List.drop_length_add_append]
    simp only [List.take_succ_cons, List.take_zero, List.drop_succ_cons, List.drop_drop, List.append_assoc, List.singleton_append, List.cons_append, List.nil_append]
    rw [show off + k + 1 + vs.length = off + k + (vs.length + 1) by omega]

theorem splice_rep {cs ws : List V} {vs xs : List Value} (h : VReps μ cs vs) (k : VReps μ ws xs) (off : Nat) : VReps μ (splice cs off ws) (vs.take off ++ xs ++ vs.drop (off + xs.length)) := by
  unfold splice
  rw [k.1]
  exact ((h.take off).append k).append (h.drop _)

/-- Pairs of places and parts. -/
def PartsRep (μ : Mem) (ps : List (Nat × V)) (qs : List (Nat × Value)) : Prop :=
  qs.length = ps.length ∧ ∀ (i : Nat) (p : Nat × V), ps[i]? = some p → ∃ x, qs[i]? = some (p.1, x) ∧ VRep μ p.2 x

theorem PartsRep.of_cons {p : Nat × V} {ps : List (Nat × V)} {qs : List (Nat × Value)} (h : PartsRep μ (p :: ps) qs) : ∃ x rest, qs = (p.1, x) :: rest ∧ VRep μ p.2 x ∧ PartsRep μ ps rest := by
  obtain ⟨hl, hr⟩ := h
  cases qs with
  | nil => simp at hl
  | cons q qs =>
    obtain ⟨x, hx, hv⟩ := hr 0 p rfl
    simp only [List.getElem?_cons_zero, Option.some.injEq] at hx
    subst hx
    exact ⟨x, qs, rfl, hv, by simpa using hl, fun i p' hp => by
      obtain ⟨x', hx', hv'⟩ := hr (i + 1) p' (by simpa using hp)
      exact ⟨x', by simpa using hx', hv'⟩⟩

theorem parts_rep (hρ : ∀ x, VRep μ (ρ x) (ρc x)) (parts : Array (Nat × Operand)) : PartsRep μ (parts.toList.map fun (p : Nat × Operand) => (p.1, ρ p.2)) (parts.map fun (i, x) => (i, ρc x)).toList := by
  refine ⟨by simp, fun i p hp => ?_⟩
  simp only [List.getElem?_map, Option.map_eq_some_iff] at hp
  obtain ⟨q, hq, rfl⟩ := hp
  refine ⟨ρc q.2, ?_, hρ q.2⟩
  simp [hq]

theorem fill_rep {place place' : Nat → Option (Nat × Nat)} (hp : ∀ i p, place i = some p → place' i = some p) : ∀ (ps : List (Nat × V)) (qs : List (Nat × Value)) (cs : List V) (cur : Array Value) (cs' : List V),
    PartsRep μ ps qs → VReps μ cs cur.toList → (∀ x ∈ cur.toList, x.oneCell' = true) → fillV place cs ps = some cs' →
    ∃ cur', Instr.fill place' cur qs = some cur' ∧ VReps μ cs' cur'.toList ∧ ∀ x ∈ cur'.toList, x.oneCell' = true
  | [], qs, cs, cur, cs', hps, hr, h1, hf => by
    have : qs = [] := List.eq_nil_of_length_eq_zero (by simpa using hps.1)
    subst this
    simp only [fillV, Option.some.injEq] at hf
    subst hf
    exact ⟨cur, rfl, hr, h1⟩
  | (i, v) :: ps, qs, cs, cur, cs', hps, hr, h1, hf => by
    obtain ⟨x, rest, rfl, hx, hrest⟩ := hps.of_cons
    simp only [fillV] at hf
    cases hpl : place i with
    | none => simp [hpl] at hf
    | some q =>
      obtain ⟨off, size⟩ := q
      simp only [hpl] at hf
      split at hf
      · rename_i hc
        obtain ⟨hflat, hlen, hfit⟩ := hc
        obtain ⟨hxr, hx1⟩ := V.cells_rep hx hflat
        have hsz : x.cells.size = size := by have := hxr.1; simp at this; omega
        have hcl : cur.size = cs.length := by have := hr.1; simpa using this
        have hfit' : off + 0 + x.cells.toList.length ≤ cur.size := by
          rw [Array.length_toList, hsz, hcl]
          exact hfit
        have hfs := foldl_splice off x.cells.toList 0 cur hfit'
        have hfs' : (x.cells.zipIdx.foldl (fun cs (p : Value × Nat) => cs.setIfInBounds (off + p.2) p.1) cur).toList = cur.toList.take off ++ x.cells.toList ++ cur.toList.drop (off + x.cells.toList.length) := by
          rw [← Array.foldl_toList, Array.toList_zipIdx]
          simpa using hfs
        obtain ⟨cur', g1, g2, g3⟩ := fill_rep hp ps rest (splice cs off v.cells) (x.cells.zipIdx.foldl (fun cs (p : Value × Nat) => cs.setIfInBounds (off + p.2) p.1) cur) cs' hrest
          (by rw [hfs']; exact splice_rep hr hxr off)
          (by
            intro y hy
            rw [hfs'] at hy
            simp only [List.mem_append] at hy
            rcases hy with (hy | hy) | hy
            · exact h1 y (List.mem_of_mem_take hy)
            · exact hx1 y hy
            · exact h1 y (List.mem_of_mem_drop hy)) hf
        refine ⟨cur', ?_, g2, g3⟩
        simp only [Instr.fill, hp i _ hpl]
        rw [if_neg (show ¬ ((decide (x.cells.size ≠ size) || decide (off + x.cells.size > cur.size)) = true) by simp [hsz]; omega)]
        exact g1
      · cases hf

theorem mapM_places {P : Program} : ∀ (fs : List Field), (∀ f ∈ fs, hasType P f.type = true) → fs.mapM (fun f => (P.info? f.type).map fun i => (f.offset, i.size)) = some (fs.map fun f => (f.offset, szOf P f.type))
  | [], _ => rfl
  | f :: fs, h => by
    obtain ⟨i, hi, hs⟩ := hasType_info (h f (by simp))
    simp only [List.mapM_cons, hi, mapM_places fs (fun g hg => h g (by simp [hg]))]
    simp [hs]

theorem does_build (hs : Sim w0 B μ H w) {o : Oper} {t : TypeId} {parts : Array (Nat × Operand)} (ho : o.op = .build t parts) (hρ : ∀ x, VRep μ (ρ x) (ρc x)) (hint : Hint) (nid : Nat) (hok : (arec X hint nid ρ H o.op).ok) :
    Does X w0 B ρc o μ H w (arec X hint nid ρ H o.op) := by
  rw [ho] at hok ⊢
  simp only [arec] at hok ⊢
  split at hok
  · rename_i cs hfill
    obtain ⟨hf, hz⟩ := hok
    obtain ⟨z, hzv, _, hzr, hz1⟩ := hasZero_spec (μ := μ) hz
    obtain ⟨it, hit, hitz⟩ := zeroV_info hzv
    unfold fieldsOk at hf
    split at hf
    · rename_i fs hu
      have hall : ∀ f ∈ fs.toList, hasType X.P f.type = true := List.all_eq_true.1 hf
      have hplace : ∀ i p, placeOf X.P t i = some p → ((fs.toList.map fun f => (f.offset, szOf X.P f.type)).toArray[i]?) = some p := by
        intro i p hp
        simp only [placeOf, hu, fieldAt, Option.map_map, Option.map_eq_some_iff] at hp
        obtain ⟨f, hf, rfl⟩ := hp
        simp [hf]
      obtain ⟨cur', g1, g2, g3⟩ := fill_rep (place' := fun i => (fs.toList.map fun f => (f.offset, szOf X.P f.type)).toArray[i]?) hplace _ _ _ z.cells cs (parts_rep hρ parts) hzr hz1 hfill
      have hb : X.P.built t (parts.map fun (i, x) => (i, ρc x)).toList = some cur' := by
        simp only [Program.built, hit, hu, hitz, mapM_places fs.toList hall]
        exact g1
      refine does_pure hs (x := .agg cur') ?_ ?_
      · simp [execOp, ho, run_build w t _ cur' hb]
      · have e : Value.agg cur' = .agg cur'.toList.toArray := by simp
        rw [e]
        exact .agg _ _ g2.1 g2.2 g3
    · rename_i n e hu
      obtain ⟨ie, hie, hies⟩ := hasType_info hf
      have hplace : ∀ i p, placeOf X.P t i = some p → (fun i => some (i * ie.size, ie.size)) i = some p := by
        intro i p hp
        simp only [placeOf, hu] at hp
        rw [← hp, hies]
      obtain ⟨cur', g1, g2, g3⟩ := fill_rep (place' := fun i => some (i * ie.size, ie.size)) hplace _ _ _ z.cells cs (parts_rep hρ parts) hzr hz1 hfill
      have hb : X.P.built t (parts.map fun (i, x) => (i, ρc x)).toList = some cur' := by
        simp only [Program.built, hit, hu, hitz, hie]
        exact g1
      refine does_pure hs (x := .agg cur') ?_ ?_
      · simp [execOp, ho, run_build w t _ cur' hb]
      · have e : Value.agg cur' = .agg cur'.toList.toArray := by simp
        rw [e]
        exact .agg _ _ g2.1 g2.2 g3
    · cases hf
  · exact hok.elim

/-- Slice literals. -/
theorem fillV_elems (size : Nat) : ∀ (ps : List (Nat × V)) (k : Nat) (es : List (List V)) (pre post : List V), elemsOf size k ps = some es → pre.length = k * size → es.length * size ≤ post.length →
    fillV (fun i => some (i * size, size)) (pre ++ post) ps = some (pre ++ es.flatten ++ post.drop (es.length * size))
  | [], k, es, pre, post, h, hp, hq => by
    simp only [elemsOf, Option.some.injEq] at h
    subst h
    simp [fillV]
  | (i, v) :: ps, k, es, pre, post, h, hp, hq => by
    simp only [elemsOf] at h
    split at h
    · rename_i hc
      obtain ⟨rfl, hflat, hlen⟩ := hc
      simp only [Option.map_eq_some_iff] at h
      obtain ⟨es', hes, rfl⟩ := h
      simp only [List.length_cons, Nat.add_mul, Nat.one_mul] at hq
      simp only [fillV]
      have hq' : i * size + size ≤ (pre ++ post).length := by
        rw [List.length_append, hp]
        exact Nat.add_le_add_left (Nat.le_trans (Nat.le_add_left _ _) hq) _
      rw [if_pos ⟨hflat, hlen, hq'⟩]
      have hsp : splice (pre ++ post) (i * size) v.cells = (pre ++ v.cells) ++ post.drop size := by
        unfold splice
        rw [← hp, List.take_left, hlen]
        rw [show pre.length + size = pre.length + size from rfl, List.drop_append]
        simp
      rw [hsp, fillV_elems size ps (i + 1) es' (pre ++ v.cells) (post.drop size) hes (by simp [hp, hlen, Nat.add_mul]) (by simp; omega)]
      simp only [List.flatten_cons, List.append_assoc, List.drop_drop, List.length_cons, Nat.add_mul, Nat.one_mul]
      rw [Nat.add_comm size]
    · cases h

theorem elemsOf_len {size : Nat} : ∀ {ps : List (Nat × V)} {k : Nat} {es : List (List V)}, elemsOf size k ps = some es → ∀ c ∈ es, c.length = size
  | [], _, es, h => by simp only [elemsOf, Option.some.injEq] at h; subst h; simp
  | (i, v) :: ps, k, es, h => by
    simp only [elemsOf] at h
    split at h
    · rename_i hc
      simp only [Option.map_eq_some_iff] at h
      obtain ⟨es', hes, rfl⟩ := h
      intro c hcm
      rcases List.mem_cons.1 hcm with rfl | hcm
      · exact hc.2.2
      · exact elemsOf_len hes c hcm
    · cases h

theorem flatten_len {size : Nat} : ∀ {es : List (List V)}, (∀ c ∈ es, c.length = size) → es.flatten.length = es.length * size
  | [], _ => by simp
  | c :: es, h => by
    rw [List.flatten_cons, List.length_append, flatten_len (fun d hd => h d (by simp [hd])), h c (by simp), List.length_cons, Nat.add_mul, Nat.one_mul, Nat.add_comm]

theorem flatten_get {size : Nat} : ∀ {es : List (List V)}, (∀ c ∈ es, c.length = size) → ∀ i j, i < es.length → j < size → es.flatten.getD (i * size + j) .any = (es.getD i []).getD j .any
  | [], _, i, j, hi, _ => by simp at hi
  | c :: es, h, i, j, hi, hj => by
    have hc := h c (by simp)
    cases i with
    | zero => simp [List.getD, List.getElem?_append_left (show j < c.length by omega)]
    | succ i =>
      have ih := flatten_get (es := es) (fun d hd => h d (by simp [hd])) i j (by simpa using hi) hj
      have e : (i + 1) * size + j = c.length + (i * size + j) := by rw [hc, Nat.add_mul]; omega
      simp only [List.flatten_cons, List.getD_cons_succ]
      rw [e]
      simp only [List.getD] at ih ⊢
      rw [List.getElem?_append_right (by omega)]
      rw [show c.length + (i * size + j) - c.length = i * size + j by omega]
      exact ih

/-- A row of cells that nobody will write reads as its elements. -/
theorem slc_of_imm {es : List (List V)} {c size : Nat} {vs : List Value} (hsz : ∀ d ∈ es, d.length = size) (hc : ∀ k, k < es.length * size → μ.imm c k = vs[k]?) (hr : VReps μ es.flatten vs) {o : Own} {cap : Nat} (hcap : es.length ≤ cap)
    (ho : OwnOk μ o c 0 es.length cap size) : VRep μ (.slc o es) (.slice (some ⟨c, 0, none⟩) es.length cap) := by
  have hl : vs.length = es.length * size := by rw [hr.1, flatten_len hsz]
  have hk : ∀ i j, i < es.length → j < size → i * size + j < es.length * size := by
    intro i j hi hj
    calc i * size + j < i * size + size := by omega
      _ = (i + 1) * size := by rw [Nat.add_mul, Nat.one_mul]
      _ ≤ es.length * size := Nat.mul_le_mul_right _ hi
  refine .slc o es c 0 es.length cap size (fun i j => vs.getD (i * size + j) undef) rfl hcap (fun i hi => ?_) (fun i j hi hj => ?_) (fun i j hi hj => ?_) ho
  · have : es[i]? = some es[i] := List.getElem?_eq_getElem hi
    simp only [List.getD, this, Option.getD_some]
    exact hsz _ (List.getElem_mem hi)
  · have := hk i j hi hj
    rw [Nat.zero_add, hc _ this]
    simp [List.getD, List.getElem?_eq_getElem (show i * size + j < vs.length by omega)]
  · have h1 := hr.2 (i * size + j) (by rw [flatten_len hsz]; exact hk i j hi hj)
    rw [flatten_get hsz i j hi hj] at h1
    exact h1

theorem does_buildSlice (hs : Sim w0 B μ H w) {o : Oper} {t : TypeId} {len : Nat} {parts : Array (Nat × Operand)} (ho : o.op = .buildSlice t len parts) (hρ : ∀ x, VRep μ (ρ x) (ρc x)) (hint : Hint) {nid : Nat} (hid : H.get nid = none)
    (hok : (arec X hint nid ρ H o.op).ok) : Does X w0 B ρc o μ H w (arec X hint nid ρ H o.op) := by
  rw [ho] at hok ⊢
  simp only [arec] at hok ⊢
  cases he : elemOf X.P t with
  | none => simp only [he] at hok; exact hok.elim
  | some e =>
    simp only [he] at hok ⊢
    cases hes : elemsOf (szOf X.P e) 0 (parts.toList.map fun p => (p.1, ρ p.2)) with
    | none => simp only [hes] at hok; exact hok.elim
    | some es =>
      simp only [hes] at hok ⊢
      have hc : es.length = len ∧ hasType X.P e = true ∧ hasZero X.P e = true ∧ (zeroCells X.P e).length = szOf X.P e ∧ len * szOf X.P e ≤ 16777216 := by
        cases hint <;> exact hok
      obtain ⟨hlen, ht, hz, hzl, hmax⟩ := hc
      subst hlen
      have hu := elemOf_spec he
      obtain ⟨z, hzv, hzrun, hzr, hz1⟩ := hasZero_spec (μ := μ) hz
      have hesz := elemsOf_len hes
      have hzs : z.cells.size = szOf X.P e := by have := hzr.1; simp at this; omega
      -- the row as it is laid out first
      let cur : Array Value := (Array.range (es.length * szOf X.P e)).map (fun i => z.cells[i % z.cells.size]!)
      have hcur1 : ∀ x ∈ cur.toList, x.oneCell' = true := by
        intro x hx
        simp only [cur, Array.toList_map, List.mem_map] at hx
        obtain ⟨i, hi, rfl⟩ := hx
        have hi' : i < es.length * szOf X.P e := by simpa using hi
        have hpos : 0 < z.cells.size := by
          rcases Nat.eq_zero_or_pos z.cells.size with h0 | h0
          · rw [← hzs, h0] at hi'; simp at hi'
          · exact h0
        have hm := Nat.mod_lt i hpos
        rw [getElem!_pos z.cells _ hm]
        exact hz1 _ (by simp)
      have hcurr : VReps μ (List.replicate (es.length * szOf X.P e) V.any) cur.toList := by
        refine ⟨by simp [cur], fun i hi => ?_⟩
        have hi' : i < es.length * szOf X.P e := by simpa using hi
        simp only [List.getD, List.getElem?_replicate, hi', if_true, Option.getD_some]
        exact .any _
      have hfv := fillV_elems (szOf X.P e) _ 0 es [] (List.replicate (es.length * szOf X.P e) V.any) hes (by simp) (by simp)
      simp only [List.nil_append] at hfv
      rw [List.drop_of_length_le (by simp), List.append_nil] at hfv
      obtain ⟨cur', g1, g2, g3⟩ := fill_rep (place' := fun i => some (i * szOf X.P e, szOf X.P e)) (fun i p h => h) _ _ _ cur es.flatten (parts_rep hρ parts) hcurr hcur1 hfv
      have hrun : (execOp ρc o).run X.P w = .ok (.value (.slice (some ⟨w.heap.size, 0, none⟩) es.length es.length)) (w.alloc (.cells cur'.toList.toArray e)) := by
        have hmax' : ¬ (es.length * szOf X.P e > 2 ^ 24) := by omega
        by_cases h0 : es.length * szOf X.P e = 0
        · have hcur : cur = (Array.range 0).map (fun i => (#[] : Array Value)[i % (#[] : Array Value).size]!) := by simp [cur, h0]
          rw [hcur] at g1
          simp only [execOp, ho, Instr.buildSlice, Sem.run_bind, run_underlying hu, Result.andThen_ok, szOf_run ht, Sem.run_ite, hmax', if_false, h0, if_true, Sem.run_pure]
          rw [g1]
          simp [newRow]
        · simp only [execOp, ho, Instr.buildSlice, Sem.run_bind, run_underlying hu, Result.andThen_ok, szOf_run ht, Sem.run_ite, hmax', if_false, h0, hzrun, Sem.run_pure]
          rw [show (Array.map (fun x => z.cells[x % z.cells.size]!) (Array.range (es.length * szOf X.P e))) = cur from rfl, g1]
          simp [newRow]
      have himm := hs.newImm cur'.toList e g3
      have hbox := hs.newBox hid es.flatten cur'.toList e g2.pre g3
      have fullCase : Does X w0 B ρc o μ H w (must (es.length = es.length ∧ hasType X.P e = true ∧ hasZero X.P e = true ∧ (zeroCells X.P e).length = szOf X.P e ∧ es.length * szOf X.P e ≤ 16777216) (.slc .full es)) := by
        refine ⟨_, _, _, _, hrun, .inl rfl, ?_, himm.1, himm.2⟩
        exact slc_of_imm hesz (fun k hk => by simp [Mem.newImm]) (g2.mono himm.1) (Nat.le_refl _) rfl
      cases hint with
      | imm => exact fullCase
      | tip => exact fullCase
      | box =>
        refine ⟨_, _, _, _, hrun, .inl rfl, ?_, hbox.1, hbox.2⟩
        exact .msl _ _ _ _ _ _ (by simp [Mem.newBox]) (Nat.le_refl _)

/-- Comparison of plain data. -/
theorem eqT_run {P : Program} : ∀ (d : Nat) (t : TypeId) (xs ys : List V) (b : Bool), eqT P d t xs ys = some b → ∀ (D : Nat), d ≤ D → ∀ (cs ds : List Value) (w : World), VReps μ xs cs → VReps μ ys ds →
    (aggOf P t = true → (Op.equalIn D t (.agg cs.toArray) (.agg ds.toArray)).run P w = .ok b w) ∧ (aggOf P t = false → (Op.equalIn D t (cs.getD 0 undef) (ds.getD 0 undef)).run P w = .ok b w)
  | 0, t, xs, ys, b, h, _, _, _, _, _, _, _ => by simp [eqT] at h
  | d + 1, t, xs, ys, b, h, D, hD, cs, ds, w, hxs, hys => by
    obtain ⟨D, rfl⟩ : ∃ D', D = D' + 1 := ⟨D - 1, by omega⟩
    have hD' : d ≤ D := by omega
    simp only [eqT] at h
    split at h
    · rename_i hu
      refine ⟨fun ha => by simp [aggOf, hu] at ha, fun _ => ?_⟩
      split at h
      · obtain ⟨x, xs', rfl, hx, _⟩ := hxs.of_cons
        obtain ⟨y, ys', rfl, hy, _⟩ := hys.of_cons
        cases hx; cases hy
        simp only [Option.some.injEq] at h
        subst h
        simp [Op.equalIn, run_underlying hu]
      · cases h
    · rename_i k hu
      refine ⟨fun ha => by simp [aggOf, hu] at ha, fun _ => ?_⟩
      split at h
      · obtain ⟨x, xs', rfl, hx, _⟩ := hxs.of_cons
        obtain ⟨y, ys', rfl, hy, _⟩ := hys.of_cons
        cases hx; cases hy
        split at h
        · rename_i hk
          subst hk
          simp only [Option.some.injEq] at h
          subst h
          simp [Op.equalIn, run_underlying hu]
        · cases h
      · cases h
    · rename_i hu
      refine ⟨fun ha => by simp [aggOf, hu] at ha, fun _ => ?_⟩
      split at h
      · obtain ⟨x, xs', rfl, hx, _⟩ := hxs.of_cons
        obtain ⟨y, ys', rfl, hy, _⟩ := hys.of_cons
        cases hx; cases hy
        simp only [Option.some.injEq] at h
        subst h
        exact run_equalIn_string (P := P) w D t _ _ hu
      · cases h
    · rename_i fs hu
      refine ⟨fun _ => ?_, fun ha => by simp [aggOf, hu] at ha⟩
      split at h
      · cases h
      · rename_i hst
        have hst' : P.stoodInHeld t = false := by simpa using hst
        have hfo : P.fieldsOf t = fs := by simp [Program.fieldsOf, hu]
        rw [run_equalIn_struct w D t _ _ (by rw [hfo]; exact hu) hst', hfo]
        generalize fs.toList = l at h ⊢
        clear hfo hu hst hst'
        induction l generalizing b with
        | nil =>
          simp only [List.foldr_nil, Option.some.injEq] at h
          subst h
          simp [Op.eqFields]
        | cons f l ih =>
          simp only [List.foldr_cons] at h
          split at h
          · cases h
          · rename_i hname
            have hn : f.name ≠ "_" := fun e => hname (.inl e)
            have ht : hasType P f.type = true := by
              cases hq : hasType P f.type with
              | true => rfl
              | false => exact absurd (.inr hq) hname
            split at h
            · rename_i a r ha hr
              simp only [Option.some.injEq] at h
              subst h
              have hx' := (hxs.drop f.offset).take (szOf P f.type)
              have hy' := (hys.drop f.offset).take (szOf P f.type)
              obtain ⟨e1, e2⟩ := eqT_run d f.type _ _ a ha D hD' _ _ w hx' hy'
              have hsome : (P.underlying f.type).isSome = true := by
                cases d with
                | zero => simp [eqT] at ha
                | succ d =>
                  simp only [eqT] at ha
                  cases hq : P.underlying f.type with
                  | none => simp [hq] at ha
                  | some _ => rfl
              have hone : aggOf P f.type = false → 0 < (List.take (szOf P f.type) (cs.drop f.offset)).length ∧ 0 < (List.take (szOf P f.type) (ds.drop f.offset)).length := by
                intro hag
                cases d with
                | zero => simp [eqT] at ha
                | succ d =>
                  simp only [eqT] at ha
                  split at ha
                  · split at ha
                    · rename_i h1 h2
                      rw [h1] at hx'; rw [h2] at hy'
                      rw [hx'.1, hy'.1]; simp
                    · cases ha
                  · split at ha
                    · rename_i h1 h2
                      rw [h1] at hx'; rw [h2] at hy'
                      rw [hx'.1, hy'.1]; simp
                    · cases ha
                  · split at ha
                    · rename_i h1 h2
                      rw [h1] at hx'; rw [h2] at hy'
                      rw [hx'.1, hy'.1]; simp
                    · cases ha
                  · rename_i fs' hu'
                    simp [aggOf, hu'] at hag
                  · cases ha
              have hpart : ∀ (vs : List Value), (aggOf P f.type = false → 0 < (List.take (szOf P f.type) (vs.drop f.offset)).length) →
                  (part f.type vs.toArray f.offset).run P w = .ok (if aggOf P f.type then .agg ((vs.drop f.offset).take (szOf P f.type)).toArray else ((vs.drop f.offset).take (szOf P f.type)).getD 0 undef) w := by
                intro vs hvs
                unfold part
                simp only [Sem.run_bind, isAgg_run hsome, Result.andThen_ok]
                by_cases hag : aggOf P f.type = true
                · simp only [hag, if_true, Sem.run_bind, szOf_run ht, Result.andThen_ok, Sem.run_pure]
                  congr 2
                  apply Array.ext'
                  simp
                · have hag' : aggOf P f.type = false := by simpa using hag
                  have h0 := hvs hag'
                  simp only [List.length_take, List.length_drop] at h0
                  have hlt : f.offset < vs.length := by omega
                  have hs0 : 0 < szOf P f.type := by omega
                  simp [hag', List.getD, List.getElem?_take, List.getElem?_drop, hlt, hs0]
              simp only [Op.eqFields]
              rw [if_pos hn]
              simp only [Sem.run_bind, hpart cs (fun h => (hone h).1), hpart ds (fun h => (hone h).2), Result.andThen_ok]
              have hrun : (Op.equalIn D f.type (if aggOf P f.type then .agg ((cs.drop f.offset).take (szOf P f.type)).toArray else ((cs.drop f.offset).take (szOf P f.type)).getD 0 undef)
                  (if aggOf P f.type then .agg ((ds.drop f.offset).take (szOf P f.type)).toArray else ((ds.drop f.offset).take (szOf P f.type)).getD 0 undef)).run P w = .ok a w := by
                cases hag : aggOf P f.type with
                | true => simpa using e1 hag
                | false => simpa using e2 hag
              simp only [hrun, Result.andThen_ok]
              cases a
              · simp
              · simp only [Bool.not_true, Bool.false_eq_true, if_false, Bool.true_and]
                exact ih _ hr
            · cases h
    · cases h

theorem isIfaceT_spec {P : Program} {t : TypeId} (h : isIfaceT P t = true) : ∃ ms, P.underlying t = some (.interface ms) := by
  unfold isIfaceT at h
  split at h
  · exact ⟨_, by assumption⟩
  · cases h
theorem isPtrT_spec {P : Program} {t : TypeId} (h : isPtrT P t = true) : ∃ e, P.underlying t = some (.pointer e) := by
  unfold isPtrT at h
  split at h
  · exact ⟨_, by assumption⟩
  · cases h
theorem isBoolT_spec {P : Program} {t : TypeId} (h : isBoolT P t = true) : P.underlying t = some .bool := by
  unfold isBoolT at h
  split at h
  · assumption
  · cases h

theorem equalIn_ptr_nil {P : Program} {t e : TypeId} (hu : P.underlying t = some (.pointer e)) (d : Nat) (a b : Option Addr) (h : a = none ∨ b = none) (w : World) :
    (Op.equalIn (d + 1) t (.pointer a) (.pointer b)).run P w = .ok (a.isNone && b.isNone) w := by
  rcases h with rfl | rfl
  · simp [Op.equalIn, run_underlying hu]
  · cases a <;> simp [Op.equalIn, run_underlying hu]
theorem equalIn_nilIface {P : Program} {t : TypeId} {ms : Array (String × TypeId)} (hu : P.underlying t = some (.interface ms)) (d : Nat) (w : World) :
    (Op.equalIn (d + 1) t .nilIface .nilIface).run P w = .ok true w ∧ (∀ u v, (Op.equalIn (d + 1) t .nilIface (.iface u v)).run P w = .ok false w) ∧ ∀ u v, (Op.equalIn (d + 1) t (.iface u v) .nilIface).run P w = .ok false w := by
  refine ⟨by simp [Op.equalIn, run_underlying hu], fun u v => by simp [Op.equalIn, run_underlying hu], fun u v => by simp [Op.equalIn, run_underlying hu]⟩

/-- '==' of what 'eqV' compares. -/
theorem eqV_run {P : Program} {t : TypeId} {a b : V} {x y : Value} {r : Bool} (h : eqV P t a b = some r) (ha : VRep μ a x) (hb : VRep μ b y) (w : World) (op : BinOp) (hop : op = .eql ∨ op = .neq) (ox oy : Operand) :
    (Op.equal t x y).run P w = .ok r w ∧ (eqGuard op t ox oy x y).run P w = .ok () w ∧ ((∀ k n, x ≠ .int k n) ∧ ∀ s, x ≠ .string s) ∧ ∀ k u, x ≠ .float k u ∧ ∀ v, x ≠ .complex k u v := by
  unfold eqV at h
  have hg : ∀ z1 z2 : Value, (∀ c, z1 ≠ .agg c) → z1 ≠ .nilIface → (eqGuard op t ox oy z1 z2).run P w = .ok () w := by
    intro z1 z2 h1 h2
    unfold eqGuard
    rcases hop with rfl | rfl <;> (cases z1 <;> simp_all)
  split at h
  · split at h
    · rename_i ht
      cases ha; cases hb
      simp only [Option.some.injEq] at h
      subst h
      exact ⟨run_equalIn_bool' w 9999 t _ _ (isBoolT_spec ht), hg _ _ (by simp) (by simp), by simp, by simp⟩
    · cases h
  · split at h
    · rename_i ht
      obtain ⟨e, hu⟩ := isPtrT_spec ht
      cases ha; cases hb
      simp only [Option.some.injEq] at h
      subst h
      exact ⟨equalIn_ptr_nil hu 9999 _ _ (by simp) w, hg _ _ (by simp) (by simp), by simp, by simp⟩
    · cases h
  · split at h
    · rename_i ht
      obtain ⟨e, hu⟩ := isPtrT_spec ht
      cases ha; cases hb
      simp only [Option.some.injEq] at h
      subst h
      exact ⟨equalIn_ptr_nil hu 9999 _ _ (by simp) w, hg _ _ (by simp) (by simp), by simp, by simp⟩
    · cases h
  · split at h
    · rename_i ht
      obtain ⟨e, hu⟩ := isPtrT_spec ht
      cases ha; cases hb
      simp only [Option.some.injEq] at h
      subst h
      exact ⟨equalIn_ptr_nil hu 9999 _ _ (by simp) w, hg _ _ (by simp) (by simp), by simp, by simp⟩
    · cases h
  · split at h
    · rename_i ht
      obtain ⟨e, hu⟩ := isPtrT_spec ht
      cases ha; cases hb
      simp only [Option.some.injEq] at h
      subst h
      exact ⟨equalIn_ptr_nil hu 9999 _ _ (by simp) w, hg _ _ (by simp) (by simp), by simp, by simp⟩
    · cases h
  · split at h
    · rename_i ht
      obtain ⟨e, hu⟩ := isPtrT_spec ht
      cases ha; cases hb
      simp only [Option.some.injEq] at h
      subst h
      exact ⟨equalIn_ptr_nil hu 9999 _ _ (by simp) w, hg _ _ (by simp) (by simp), by simp, by simp⟩
    · cases h
  · split at h
    · cases h
    · rename_i hgt
      split at h
      · rename_i hst
        cases ha; cases hb
        rename_i cs h1 hl hr ds k1 kl kr
        have hag : aggOf P t = true := by simp [aggOf, hst]
        have := (eqT_run (μ := μ) (P := P) 8 t _ _ r h 10000 (by omega) cs ds w ⟨hl, hr⟩ ⟨kl, kr⟩).1 hag
        refine ⟨this, ?_, by simp, by simp⟩
        unfold eqGuard
        have hgt' : P.eqGuardType P.depth t = false := by simpa using hgt
        rcases hop with rfl | rfl <;> simp [hgt']
      · cases h
  · cases h

theorem eqGuard_const {P : Program} {op : BinOp} {t : TypeId} {x y : Operand} (h : isConst x = true ∨ isConst y = true) (w : World) : (eqGuard op t x y .nilIface .nilIface).run P w = .ok () w := by
  unfold eqGuard
  cases x <;> cases y <;> first
    | (cases op <;> simp; done)
    | simp [isConst] at h
theorem eqGuard_mixed {P : Program} {op : BinOp} {t : TypeId} {x y : Operand} (u : TypeId) (v : Value) (w : World) : (eqGuard op t x y (.iface u v) .nilIface).run P w = .ok () w ∧ (eqGuard op t x y .nilIface (.iface u v)).run P w = .ok () w := by
  unfold eqGuard
  cases op <;> simp

theorem eqR_run {P : Program} {op : BinOp} {neg : Bool} {t : TypeId} {ox oy : Operand} {a b : V} {x y : Value} (hop : op = (if neg then .neq else .eql)) (ha : VRep μ a x) (hb : VRep μ b y) (hok : (eqR P neg t ox oy a b).ok) (w : World) :
    ∃ r, eqR P neg t ox oy a b = yields (.bool r) ∧ (eqGuard op t ox oy x y).run P w = .ok () w ∧ (binOp op t x y).run P w = .ok (.bool r) w := by
  have hmix : ∀ (x y : Value) (r : Bool), (∀ k n, x ≠ .int k n) → (∀ s, x ≠ .string s) → (∀ k u, x ≠ .float k u) → (∀ k u v, x ≠ .complex k u v) → (Op.equal t x y).run P w = .ok r w →
      (binOp op t x y).run P w = .ok (.bool (if neg then !r else r)) w := by
    intro x y r h1 h2 h3 h4 he
    subst hop
    cases neg
    · simp only [Bool.false_eq_true, if_false]
      cases x <;> first
        | exact absurd rfl (h1 _ _)
        | exact absurd rfl (h2 _)
        | exact absurd rfl (h3 _ _)
        | exact absurd rfl (h4 _ _ _)
        | simp [binOp, he]
    · simp only [if_true]
      cases x <;> first
        | exact absurd rfl (h1 _ _)
        | exact absurd rfl (h2 _)
        | exact absurd rfl (h3 _ _)
        | exact absurd rfl (h4 _ _ _)
        | simp [binOp, he]
  unfold eqR at hok ⊢
  split at hok
  · cases ha; cases hb
    split at hok
    · rename_i hc
      rw [if_pos hc]
      simp only [Bool.and_eq_true, Bool.or_eq_true] at hc
      obtain ⟨ms, hu⟩ := isIfaceT_spec hc.1
      have := hmix .nilIface .nilIface true (by simp) (by simp) (by simp) (by simp) (equalIn_nilIface hu 9999 w).1
      exact ⟨!neg, rfl, eqGuard_const hc.2 w, by cases neg <;> simpa using this⟩
    · exact hok.elim
  · rename_i u v
    cases ha; cases hb
    split at hok
    · rename_i hc
      rw [if_pos hc]
      obtain ⟨ms, hu⟩ := isIfaceT_spec hc
      have := hmix (.iface u v) .nilIface false (by simp) (by simp) (by simp) (by simp) ((equalIn_nilIface hu 9999 w).2.2 _ _)
      exact ⟨neg, rfl, (eqGuard_mixed _ _ w).1, by cases neg <;> simpa using this⟩
    · exact hok.elim
  · rename_i u v
    cases ha; cases hb
    split at hok
    · rename_i hc
      rw [if_pos hc]
      obtain ⟨ms, hu⟩ := isIfaceT_spec hc
      have := hmix .nilIface (.iface u v) false (by simp) (by simp) (by simp) (by simp) ((equalIn_nilIface hu 9999 w).2.1 _ _)
      exact ⟨neg, rfl, (eqGuard_mixed _ _ w).2, by cases neg <;> simpa using this⟩
    · exact hok.elim
  · cases hr : eqV P t a b with
    | none => rw [hr] at hok; exact hok.elim
    | some r =>
      obtain ⟨e1, e2, e3, e4⟩ := eqV_run hr ha hb w op (by subst hop; cases neg <;> simp) ox oy
      exact ⟨_, rfl, e2, hmix x y r e3.1 e3.2 (fun k u => (e4 k u).1) (fun k u v => (e4 k u).2 v) e1⟩

theorem does_binOp (hs : Sim w0 B μ H w) {o : Oper} {op : BinOp} {t yt : TypeId} {x y : Operand} (ho : o.op = .binOp op t x y yt) (hx : VRep μ (ρ x) (ρc x)) (hy : VRep μ (ρ y) (ρc y)) (hint : Hint) (nid : Nat) (hok : (arec X hint nid ρ H o.op).ok) :
    Does X w0 B ρc o μ H w (arec X hint nid ρ H o.op) := by
  rw [ho] at hok ⊢
  simp only [arec] at hok ⊢
  generalize ρ x = a at *
  generalize ρ y = b at *
  have hexec : (execOp ρc o).run X.P w = ((eqGuard op t x y (ρc x) (ρc y)).run X.P w).andThen fun _ w' => ((binOp op t (ρc x) (ρc y)).run X.P w').andThen fun v w'' => .ok (.value v) w'' := by
    simp only [execOp, ho, Sem.run_bind, Sem.run_pure]
    cases (eqGuard op t x y (ρc x) (ρc y)).run X.P w <;> simp [Result.andThen]
  have hg : ∀ z1 z2 : Value, (∀ c, z1 ≠ .agg c) → z1 ≠ .nilIface → (eqGuard op t x y z1 z2).run X.P w = .ok () w := by
    intro z1 z2 h1 h2
    unfold eqGuard
    cases op <;> first | (simp; done) | (cases z1 <;> simp_all)
  unfold binR at hok ⊢
  split at hok
  · rename_i k m k' n
    cases hcx : ρc x <;> rw [hcx] at hx <;> cases hx
    cases hcy : ρc y <;> rw [hcy] at hy <;> cases hy
    split at hok
    · rename_i hk
      subst hk
      simp only [if_true] at hok ⊢
      rw [hcx, hcy, hg _ _ (by simp) (by simp)] at hexec
      simp only [Result.andThen_ok] at hexec
      unfold binI at hok ⊢
      split at hok
      · exact does_pure hs (x := .int k (k.wrap (m + n))) (by rw [hexec]; simp [binOp, Op.intArith]) (.int _ _)
      · exact does_pure hs (x := .int k (k.wrap (m - n))) (by rw [hexec]; simp [binOp, Op.intArith]) (.int _ _)
      · exact does_pure hs (x := .int k (k.wrap (m * n))) (by rw [hexec]; simp [binOp, Op.intArith]) (.int _ _)
      · exact does_pure hs (x := .int k (k.wrap (m.tdiv n))) (by rw [hexec]; have hne : ¬ (n = 0) := hok; simp [binOp, Op.intDiv, hne]) (.int _ _)
      · exact does_pure hs (x := .int k (m.tmod n)) (by rw [hexec]; have hne : ¬ (n = 0) := hok; simp [binOp, Op.intDiv, hne]) (.int _ _)
      · exact does_pure hs (x := .bool (m == n)) (by rw [hexec]; simp [binOp, Op.intCmp]) (.bool _)
      · exact does_pure hs (x := .bool (m != n)) (by rw [hexec]; simp [binOp, Op.intCmp]) (.bool _)
      · exact does_pure hs (x := .bool (decide (m < n))) (by rw [hexec]; simp [binOp, Op.intCmp]) (.bool _)
      · exact does_pure hs (x := .bool (decide (m ≤ n))) (by rw [hexec]; simp [binOp, Op.intCmp]) (.bool _)
      · exact does_pure hs (x := .bool (decide (m > n))) (by rw [hexec]; simp [binOp, Op.intCmp]) (.bool _)
      · exact does_pure hs (x := .bool (decide (m ≥ n))) (by rw [hexec]; simp [binOp, Op.intCmp]) (.bool _)
      · exact hok.elim
    · exact hok.elim
  · rename_i m n
    cases hcx : ρc x <;> rw [hcx] at hx <;> cases hx
    cases hcy : ρc y <;> rw [hcy] at hy <;> cases hy
    rw [hcx, hcy, hg _ _ (by simp) (by simp)] at hexec
    simp only [Result.andThen_ok] at hexec
    unfold binS at hok ⊢
    split at hok
    · have hle : ¬ (((m.size + n.size : Nat) : Int) > IntKind.i64.max) := by
        have : (m.size + n.size : Nat) ≤ 9223372036854775807 := hok
        have e : IntKind.i64.max = 9223372036854775807 := rfl
        omega
      exact does_pure hs (x := .string (m ++ n)) (by rw [hexec]; simp only [binOp, Op.stringOp, if_neg hle]; rfl) (.str _)
    · exact does_pure hs (x := .bool (m.toList == n.toList)) (by rw [hexec]; simp [binOp, Op.stringOp]) (.bool _)
    · exact does_pure hs (x := .bool (!(m.toList == n.toList))) (by rw [hexec]; simp [binOp, Op.stringOp]) (.bool _)
    · exact hok.elim
  · have eqCase : ∀ neg : Bool, op = (if neg then .neq else .eql) → (eqR X.P neg t x y a b).ok → Does X w0 B ρc o μ H w (eqR X.P neg t x y a b) := by
      intro neg hop hok
      obtain ⟨r, e1, e2, e3⟩ := eqR_run hop hx hy hok w
      rw [e1]
      exact does_pure hs (x := .bool r) (by rw [hexec, e2]; simp [e3]) (.bool _)
    split at hok
    · exact eqCase false rfl hok
    · exact eqCase true rfl hok
    · exact hok.elim

end
end Go.Alt

/- The abstract layer, part 7: slices, lengths, make and append. No condition. -/
namespace Go.Alt
open Go Go.RowKit

section
variable {X : Cx} {w0 : Base} {w : World} {B : Nat} {μ : Mem} {H : AHeap} {ρ : Operand → V} {ρc : Operand → Value}

theorem chunks_flatten (size : Nat) : ∀ (n : Nat) (cs : List V), (chunks size n cs).flatten = cs.take (n * size)
  | 0, cs => by simp [chunks]
  | n + 1, cs => by
    simp only [chunks, List.flatten_cons, chunks_flatten size n]
    rw [Nat.add_mul, Nat.one_mul, Nat.add_comm (n * size), List.take_add]
theorem chunks_len (size : Nat) : ∀ (n : Nat) (cs : List V), (chunks size n cs).length = n
  | 0, _ => rfl
  | n + 1, cs => by simp [chunks, chunks_len size n]
theorem chunks_each (size : Nat) : ∀ (n : Nat) (cs : List V), n * size ≤ cs.length → ∀ c ∈ chunks size n cs, c.length = size
  | 0, _, _, c, hc => by simp [chunks] at hc
  | n + 1, cs, h, c, hc => by
    rw [Nat.add_mul, Nat.one_mul] at h
    simp only [chunks, List.mem_cons] at hc
    rcases hc with rfl | hc
    · rw [List.length_take]; omega
    · exact chunks_each size n (cs.drop size) (by rw [List.length_drop]; omega) c hc

/-- The cells of the elements of a slice, as they lie in memory. -/
theorem elemsV_spec (hs : Sim w0 B μ H w) {v : V} {x : Value} {ys : List (List V)} {rd : List (Nat × Nat)} {sz : Nat} (h : elemsV H v = some (ys, rd)) (hv : VRep μ v x) (hsz : ∀ c ∈ ys, c.length = sz) :
    ∃ (base : Option Addr) (cap : Nat) (news : List Value), x = .slice base ys.length cap ∧ news.length = ys.length * sz ∧ VReps μ ys.flatten news ∧ (∀ y ∈ news, y.oneCell' = true) ∧
      (ys.length = 0 ∨ ∃ c o, base = some ⟨c, o, none⟩ ∧ ∀ j u, news[j]? = some u → w.cell? ((⟨c, o, none⟩ : Addr).add j) = some u) := by
  unfold elemsV at h
  split at h
  · rename_i own es
    simp only [Option.some.injEq, Prod.mk.injEq] at h
    obtain ⟨rfl, _⟩ := h
    rcases vrep_slc hv with ⟨rfl, rfl⟩ | ⟨c, off, cap, sz', xs, rfl, hcap, hsz', hc, hr, _⟩
    · exact ⟨none, 0, [], rfl, by simp, .nil_, by simp, .inl rfl⟩
    · rcases Nat.eq_zero_or_pos es.length with h0 | h0
      · have he : es = [] := List.eq_nil_of_length_eq_zero h0
        subst he
        exact ⟨_, cap, [], rfl, by simp, .nil_, by simp, .inl rfl⟩
      · have hss : sz' = sz := by
          rw [← hsz' 0 h0, ← hsz (es.getD 0 [])]
          simp only [List.getD, List.getElem?_eq_getElem h0, Option.getD_some]
          exact List.getElem_mem h0
        subst hss
        have hdiv : ∀ k, k < es.length * sz' → k / sz' < es.length ∧ k % sz' < sz' := by
          intro k hk
          have hp : 0 < sz' := by
            rcases Nat.eq_zero_or_pos sz' with q | q
            · rw [q] at hk; simp at hk
            · exact q
          exact ⟨Nat.div_lt_of_lt_mul (by rw [Nat.mul_comm]; exact hk), Nat.mod_lt _ hp⟩
        refine ⟨_, cap, (List.range (es.length * sz')).map fun k => xs (k / sz') (k % sz'), rfl, by simp, ⟨by simp [flatten_len hsz], fun k hk => ?_⟩, fun y hy => ?_, .inr ⟨c, off, rfl, fun j u hu => ?_⟩⟩
        · rw [flatten_len hsz] at hk
          obtain ⟨d1, d2⟩ := hdiv k hk
          have e : k = (k / sz') * sz' + k % sz' := by rw [Nat.mul_comm]; exact (Nat.div_add_mod k sz').symm
          have hfg := flatten_get hsz (k / sz') (k % sz') d1 d2
          rw [← e] at hfg
          rw [hfg]
          have := hr (k / sz') (k % sz') d1 d2
          simpa [List.getD, List.getElem?_map, List.getElem?_range hk] using this
        · simp only [List.mem_map, List.mem_range] at hy
          obtain ⟨k, hk, rfl⟩ := hy
          obtain ⟨d1, d2⟩ := hdiv k hk
          exact (hs.imm _ _ _ (hc _ _ d1 d2)).2
        · have hj : j < es.length * sz' := by
            have := (List.getElem?_eq_some_iff.1 hu).1
            simpa using this
          obtain ⟨d1, d2⟩ := hdiv j hj
          simp only [List.getElem?_map, List.getElem?_range hj, Option.map_some, Option.some.injEq] at hu
          subst hu
          rw [addr_add]
          have := (hs.imm _ _ _ (hc _ _ d1 d2)).1
          rw [Nat.add_assoc] at this
          rwa [show (j / sz') * sz' + j % sz' = j by rw [Nat.mul_comm]; exact Nat.div_add_mod j sz'] at this
  · rename_i b off len size
    split at h
    · rename_i cs hg
      split at h
      · rename_i hfit
        simp only [Option.some.injEq, Prod.mk.injEq] at h
        obtain ⟨rfl, _⟩ := h
        cases hv
        rename_i c cap hb hcap
        obtain ⟨vs, e, k1, k2, k3⟩ := hs.boxCells hb hg
        rw [chunks_len]
        have hlen : len * size = len * sz := by
          rcases Nat.eq_zero_or_pos len with q | q
          · subst q; simp
          · have hm : (chunks size len (cs.drop off))[0]'(by rw [chunks_len]; exact q) ∈ chunks size len (cs.drop off) := List.getElem_mem _
            have h1 := chunks_each size len (cs.drop off) (by rw [List.length_drop]; omega) _ hm
            have h2 := hsz _ hm
            rw [← h1, h2]
        refine ⟨_, cap, (vs.drop off).take (len * size), rfl, ?_, ?_, fun y hy => k3 y (List.mem_of_mem_drop (List.mem_of_mem_take hy)), .inr ⟨c, off, rfl, fun j u hu => ?_⟩⟩
        · rw [List.length_take, List.length_drop, ← hlen]; have := k2.1; omega
        · rw [chunks_flatten]
          refine ⟨by rw [List.length_take, List.length_take, List.length_drop, List.length_drop]; have := k2.1; omega, fun i hi => ?_⟩
          have hi' : i < len * size ∧ i < cs.length - off := by
            rw [List.length_take, List.length_drop] at hi; omega
          have := preps_drop k2 off i (by rw [List.length_drop]; omega)
          simpa [List.getD, List.getElem?_take, hi'.1, List.getElem?_drop] using this
        · rw [addr_add, cell_of_row w c (off + j) vs.toArray e (0, 0) k1]
          rw [List.getElem?_take] at hu
          split at hu
          · simpa [List.getElem?_drop] using hu
          · cases hu
      · cases h
    · cases h
  · cases h

theorem ownOk_tip {b c off len cap sz : Nat} (t : Tip) (h : μ.tip b = some t) (hl : len ≤ t.n) (hq : len = t.n → c = t.c ∧ off = 0 ∧ cap = t.cap ∧ t.sz = sz) : OwnOk μ (.tip b) c off len cap sz :=
  Or.inr ⟨t, h, hl, hq⟩
theorem vrep_own {es : List (List V)} {x : Value} (h : VRep μ (.slc .full es) x) : VRep μ (.slc .shared es) x := by
  cases h with
  | slcNil => exact .slcNil _
  | slc _ _ c off len cap sz xs hlen hcap hsz hc hr ho => exact .slc _ _ c off len cap sz xs hlen hcap hsz hc hr trivial
theorem vrep_tip {es : List (List V)} {x : Value} (h : VRep μ (.slc .full es) x) (b : Nat) : VRep μ (.slc (.tip b) es) x := by
  cases h with
  | slcNil => exact .slcNil _
  | slc _ _ c off len cap sz xs hlen hcap hsz hc hr ho => exact .slc _ _ c off len cap sz xs hlen hcap hsz hc hr (.inl ho)

/-- An append of nothing. -/
theorem run_append_zero {P : Program} (t ty e : TypeId) (ht : P.underlying t = some (.slice e)) (hh : hasType P e = true) (base xb : Option Addr) (n cap xc : Nat) (hn : n ≤ cap) (w : World) :
    (Builtin.append_ #[t, t] ty #[.slice base n cap, .slice xb 0 xc]).run P w = .ok (.slice base n cap) w := by
  have hs := szOf_run hh
  have hf : (Builtin.firstCells (szOf P e) 0 (.slice xb 0 xc)).run P w = .ok #[] w := by
    cases xb <;> simp [Builtin.firstCells, loadCells, loadCellsFrom]
  cases base with
  | none => simp [Builtin.append_, run_underlying ht, hs, Builtin.lenOf, hn, hf]
  | some a => simp [Builtin.append_, run_underlying ht, hs, Builtin.lenOf, hn, hf, storeCells]

theorem zeroRest_len {z : Array Value} {n : Nat} : (Builtin.zeroCells z n).toList.length = n * z.size := by simp [Builtin.zeroCells]

theorem run_append_room' {P : Program} (t ty e el : TypeId) (i : TypeInfo) (ht : P.underlying t = some (.slice e)) (hi : P.info? e = some i)
    (g sLen sCap : Nat) (cur : Array Value) (hg : w.heap[g]? = some (.cells cur el (0, 0)))
    (a : Addr) (m c : Nat) (news : List Value) (hl : news.length = m * i.size) (hnews : ∀ j u, news[j]? = some u → w.cell? (a.add j) = some u) (h1 : ∀ u ∈ news, u.oneCell' = true)
    (hroom : sLen + m ≤ sCap) (hfit : sLen * i.size + news.length ≤ cur.size) :
    (Builtin.append_ #[t, t] ty #[.slice (some ⟨g, 0, none⟩) sLen sCap, .slice (some a) m c]).run P w =
      .ok (.slice (some ⟨g, 0, none⟩) (sLen + m) sCap) (w.setRow g (cur.toList.take (sLen * i.size) ++ news ++ cur.toList.drop (sLen * i.size + news.length)).toArray) := by
  have hf := run_firstCells_some (P := P) w i.size m a m c news hl hnews
  have hst := run_storeCells_at P g (sLen * i.size) el news 0 cur w hg (by simpa using hfit) h1
  simp only [Nat.add_zero] at hst
  simp [Builtin.append_, run_underlying ht, sizeOf, typeInfo, hi, Builtin.lenOf, hroom, hf, addr_add, hst]

theorem does_append (hs : Sim w0 B μ H w) {o : Oper} {t : TypeId} {s x : Operand} (ho : o.op = .call { callee := .builtin .append, args := #[s, x], argTypes := #[t, t] })
    (hvs : VRep μ (ρ s) (ρc s)) (hvx : VRep μ (ρ x) (ρc x)) (hint : Hint) {nid : Nat} (hid : H.get nid = none) (hok : (appendR X.P hint nid t H (ρ s) (ρ x)).ok) :
    Does X w0 B ρc o μ H w (appendR X.P hint nid t H (ρ s) (ρ x)) := by
  have hexec : (execOp ρc o).run X.P w = ((Builtin.append_ #[t, t] o.type #[ρc s, ρc x]).run X.P w).andThen fun v w' => .ok (.value v) w' := by
    simp [execOp, ho, resolve, invoke, builtin]
  unfold appendR at hok ⊢
  split at hok
  case h_2 => exact hok.elim
  rename_i e ys rd he hel
  have hu := elemOf_spec he
  -- the common part: what is asked, and what the machine then does
  have main : ∀ (own : Own) (es : List (List V)), ρ s = .slc own es → appendOk X.P e es ys →
      (own = .full ∨ ∃ b, own = .tip b ∧ H.get b = some (.tip es.length)) →
      ∃ (news : List Value), news.length = ys.length * szOf X.P e ∧ VReps μ ys.flatten news ∧ (∀ y ∈ news, y.oneCell' = true) ∧ (∀ c ∈ es, c.length = szOf X.P e) ∧ (∀ c ∈ ys, c.length = szOf X.P e) ∧
        ((ys = [] ∧ (Builtin.append_ #[t, t] o.type #[ρc s, ρc x]).run X.P w = .ok (ρc s) w) ∨
         (0 < ys.length ∧ ∃ (olds rest : List Value) (cap : Nat), olds.length = es.length * szOf X.P e ∧ VReps μ es.flatten olds ∧ (∀ y ∈ olds, y.oneCell' = true) ∧ es.length + ys.length ≤ cap ∧ rest.length = (cap - (es.length + ys.length)) * szOf X.P e ∧
            (∀ y ∈ rest, y.oneCell' = true) ∧
            (Builtin.append_ #[t, t] o.type #[ρc s, ρc x]).run X.P w = .ok (.slice (some ⟨w.heap.size, 0, none⟩) (es.length + ys.length) cap) (w.drew.alloc (.cells (olds ++ news ++ rest).toArray e))) ∨
         (0 < ys.length ∧ ∃ b tp cur el, own = .tip b ∧ μ.tip b = some tp ∧ tp.n = es.length ∧ tp.sz = szOf X.P e ∧ tp.n + ys.length ≤ tp.cap ∧ w.heap[tp.c]? = some (.cells cur el (0, 0)) ∧
            (∃ cap, ρc s = .slice (some ⟨tp.c, 0, none⟩) es.length cap ∧ cap = tp.cap) ∧ VRep μ (.slc own es) (ρc s) ∧
            (Builtin.append_ #[t, t] o.type #[ρc s, ρc x]).run X.P w = .ok (.slice (some ⟨tp.c, 0, none⟩) (es.length + ys.length) tp.cap)
              (w.setRow tp.c (cur.toList.take (tp.n * tp.sz) ++ news ++ cur.toList.drop (tp.n * tp.sz + news.length)).toArray))) := by
    intro own es hse hap hown
    obtain ⟨a1, a2, a3, a4, a5, a6, a7⟩ := hap
    obtain ⟨xb, xc, news, hx, hnl, hnr, hn1, hnc⟩ := elemsV_spec hs hel hvx a5
    obtain ⟨it, hit, hisz⟩ := hasType_info a1
    obtain ⟨z, hz, _, hzr, hz1⟩ := hasZero_spec (μ := μ) a2
    obtain ⟨it', hit', hitz⟩ := zeroV_info hz
    rw [hit] at hit'
    injection hit' with hit'
    subst hit'
    have hzs : z.cells.size = it.size := by rw [← hisz, ← a3, ← Array.length_toList, hzr.1]
    have hby : byOf X.P e = it.bytes := by simp [byOf, typeInfo, hit]
    rw [hby] at a7
    rw [hse] at hvs
    have hrest : ∀ n, ∀ y ∈ (Builtin.zeroCells z.cells n).toList, y.oneCell' = true := by
      intro n y hy
      simp only [Builtin.zeroCells, Array.toList_map, List.mem_map] at hy
      obtain ⟨i, hi, rfl⟩ := hy
      have hi' : i < n * z.cells.size := by simpa using hi
      have hpos : 0 < z.cells.size := by
        rcases Nat.eq_zero_or_pos z.cells.size with h0 | h0
        · rw [h0] at hi'; simp at hi'
        · exact h0
      have hm := Nat.mod_lt i hpos
      rw [getElem!_pos z.cells _ hm]
      exact hz1 _ (by simp)
    refine ⟨news, hnl, hnr, hn1, a4, a5, ?_⟩
    rcases Nat.eq_zero_or_pos ys.length with hy0 | hy0
    · have hye : ys = [] := List.eq_nil_of_length_eq_zero hy0
      subst hye
      refine .inl ⟨rfl, ?_⟩
      rcases vrep_slc hvs with ⟨rfl, q⟩ | ⟨c, off, cap, sz, xs, q, hcap, _⟩
      · rw [hx, q]; exact run_append_zero t _ e hu a1 none xb 0 0 xc (Nat.le_refl _) w
      · rw [hx, q]; exact run_append_zero t _ e hu a1 _ xb _ cap xc hcap w
    · right
      obtain ⟨c, off, hxb, hcells⟩ : ∃ c o, xb = some ⟨c, o, none⟩ ∧ ∀ j u, news[j]? = some u → w.cell? ((⟨c, o, none⟩ : Addr).add j) = some u := by
        rcases hnc with h | h
        · omega
        · exact h
      subst hxb
      rw [hisz] at hnl
      have hnl' : news.length = ys.length * it.size := hnl
      rcases vrep_slc hvs with ⟨rfl, q⟩ | ⟨c', off', cap', sz, xs, q, hcap, hszz, hcc, hrr, howns⟩
      · left
        refine ⟨hy0, [], _, grownCap w ys.length 0 e, by simp, .nil_, by simp, by simpa using grownCap_ge w ys.length 0 e, ?_, hrest (grownCap w ys.length 0 e - ys.length), ?_⟩
        · rw [zeroRest_len, hzs, hisz]; simp
        · have := run_append_nil (P := X.P) w t o.type e it z hu hit hitz ⟨c, off, none⟩ ys.length xc news hnl' hcells hy0 (by simp only [List.length_nil] at a6; omega) (by simp only [List.length_nil, Nat.zero_add] at a7; omega)
          rw [hx, q, this]
          simp only [List.length_nil, Nat.zero_add, List.nil_append]
          congr 3
          apply Array.ext'
          simp
      · -- the old cells
        obtain ⟨base, cap2, olds, hq2, hol, hor, ho1, hoc⟩ := elemsV_spec hs (v := .slc own es) (rd := []) rfl hvs a4
        rw [q] at hq2
        injection hq2 with hb2 _ hc2
        subst hc2
        rw [hisz] at hol
        have grow : cap' < es.length + ys.length →
            (∃ (olds rest : List Value) (cap : Nat), olds.length = es.length * szOf X.P e ∧ VReps μ es.flatten olds ∧ (∀ y ∈ olds, y.oneCell' = true) ∧ es.length + ys.length ≤ cap ∧ rest.length = (cap - (es.length + ys.length)) * szOf X.P e ∧
            (∀ y ∈ rest, y.oneCell' = true) ∧
            (Builtin.append_ #[t, t] o.type #[ρc s, ρc x]).run X.P w = .ok (.slice (some ⟨w.heap.size, 0, none⟩) (es.length + ys.length) cap) (w.drew.alloc (.cells (olds ++ news ++ rest).toArray e))) := by
          intro hlt
          have hof : ∀ j u, olds[j]? = some u → w.cell? ((⟨c', off', none⟩ : Addr).add j) = some u := by
            rcases hoc with h0 | ⟨c2, o2, h2, h3⟩
            · intro j u hu'
              have : olds = [] := List.eq_nil_of_length_eq_zero (by rw [hol, h0]; simp)
              rw [this] at hu'; simp at hu'
            · rw [← hb2] at h2
              injection h2 with h2
              rw [h2]; exact h3
          have := run_append_grow (P := X.P) w t o.type e it z hu hit hitz ⟨c', off', none⟩ es.length cap' olds hol hof ⟨c, off, none⟩ ys.length xc news hnl' hcells hlt (by omega) (growslice_fits hlt a7)
          refine ⟨olds, _, grownCap w (es.length + ys.length) cap' e, by rw [hol, hisz], hor, ho1, grownCap_ge w _ _ e, ?_, hrest (grownCap w (es.length + ys.length) cap' e - (es.length + ys.length)), ?_⟩
          · rw [zeroRest_len, hzs, hisz]
          · rw [hx, q, this]
            congr 3
            apply Array.ext'
            simp
        rcases hown with rfl | ⟨b, rfl, hbt⟩
        · have hcl : cap' = es.length := howns
          exact .inl ⟨hy0, grow (by omega)⟩
        · rcases howns with hcl | ⟨tp, ht1, ht2, ht3⟩
          · exact .inl ⟨hy0, grow (by omega)⟩
          · obtain ⟨g1, g2, ⟨g3, g4⟩, g5, g6, cur, el, g7, g8⟩ := hs.tip b tp ht1
            rw [hbt] at g1
            injection g1 with g1
            injection g1 with g1
            obtain ⟨r1, r2, r3, r4⟩ := ht3 g1
            subst r1
            subst r2
            subst r3
            by_cases hroom : es.length + ys.length ≤ tp.cap
            · right
              have hszs : tp.sz = it.size := by
                have h0 : 0 < es.length := by omega
                rw [r4, ← hszz 0 h0, ← hisz]
                apply a4
                simp only [List.getD, List.getElem?_eq_getElem h0, Option.getD_some]
                exact List.getElem_mem h0
              have hfit : es.length * it.size + news.length ≤ cur.size := by
                rw [hnl', ← Nat.add_mul, g8, hszs]
                exact Nat.mul_le_mul_right _ hroom
              have := run_append_room' (P := X.P) (w := w) t o.type e el it hu hit tp.c es.length tp.cap cur g7 ⟨c, off, none⟩ ys.length xc news hnl' hcells hn1 hroom hfit
              refine ⟨hy0, b, tp, cur, el, rfl, ht1, g1.symm, by rw [hszs, hisz], by omega, g7, ⟨tp.cap, q, rfl⟩, hvs, ?_⟩
              rw [hx, q, this, ← g1, hszs]
            · exact .inl ⟨hy0, grow (by omega)⟩
  have flen : ∀ es : List (List V), (∀ c ∈ es, c.length = szOf X.P e) → ∀ c ∈ es ++ ys, (∀ c ∈ ys, c.length = szOf X.P e) → c.length = szOf X.P e := by
    intro es h1 c hc h2
    rcases List.mem_append.1 hc with hc | hc
    · exact h1 c hc
    · exact h2 c hc
  split at hok
  · -- a slice without spare room
    rename_i es hse
    have hap : appendOk X.P e es ys := by cases hint <;> first | exact hok | exact hok.1
    obtain ⟨news, n1, n2, n3, n4, n5, h⟩ := main .full es hse hap (.inl rfl)
    rw [hse] at hvs
    have hall : ∀ c ∈ es ++ ys, c.length = szOf X.P e := fun c hc => flen es n4 c hc n5
    rcases h with ⟨rfl, hrun⟩ | ⟨hy0, olds, rest, cap, o1, o2, o3, o4, o5, o6, hrun⟩ | ⟨_, b, tp, cur, el, hb, _⟩
    · rw [List.append_nil]
      cases hint with
      | imm => exact does_pure hs (x := ρc s) (by rw [hexec, hrun]; rfl) (vrep_own hvs)
      | tip => exact ⟨ρc s, _, w, μ, by rw [hexec, hrun]; rfl, .inl rfl, vrep_tip hvs nid, Ext.refl μ, hs.newTip0 hid _⟩
      | box => have := hok.2; simp at this
    · have hfl : VReps μ (es ++ ys).flatten (olds ++ news) := by rw [List.flatten_append]; exact o2.append n2
      have h1 : ∀ y ∈ olds ++ news, y.oneCell' = true := fun y hy => by
        rcases List.mem_append.1 hy with hy | hy
        · exact o3 y hy
        · exact n3 y hy
      have hl : (es ++ ys).length = es.length + ys.length := List.length_append
      cases hint with
      | imm =>
        have himm := hs.drew.newImmP (olds ++ news) rest e h1
        refine ⟨_, _, _, _, by rw [hexec, hrun]; rfl, .inl rfl, ?_, himm.1, himm.2⟩
        rw [← hl]
        exact slc_of_imm hall (fun k _ => by simp [Mem.newImm]) (hfl.mono himm.1) (by omega) trivial
      | tip =>
        have htip := hs.drew.reTip (H' := H.new nid (.tip (es.length + ys.length))) (id := nid) (n := es.length + ys.length) (cap := cap) (sz := szOf X.P e) (olds ++ news) rest e
          (fun i hi => by simp [AHeap.new, hi]) (by simp [AHeap.new]) (by simp only [AHeap.new]; omega) (by simp only [AHeap.new]; omega) (by simp [hid]) (by simp [hid]) (by simp [hid])
          (fun t ht => by have := (hs.tip nid t ht).1; rw [hid] at this; cases this) (by omega) (by rw [List.length_append, o1, n1, Nat.add_mul]) o5 o4 h1
        refine ⟨_, _, _, _, by rw [hexec, hrun]; rfl, .inl rfl, ?_, htip.1, htip.2⟩
        have hx := slc_of_imm (o := .tip nid) (c := w.heap.size) (cap := cap) hall (fun k _ => by simp [Mem.reTip]) (hfl.mono htip.1) (by omega) (ownOk_tip ⟨w.heap.size, es.length + ys.length, cap, szOf X.P e⟩ (by simp [Mem.reTip]) (by simp only; omega) (fun _ => ⟨rfl, rfl, rfl, rfl⟩))
        rw [hl] at hx
        exact hx
      | box =>
        have hbox := hs.drew.newBox hid (es ++ ys).flatten (olds ++ news ++ rest) e (hfl.pre_append rest) (fun y hy => by
          rcases List.mem_append.1 hy with hy | hy
          · exact h1 y hy
          · exact o6 y hy)
        refine ⟨_, _, _, _, by rw [hexec, hrun]; rfl, .inl rfl, ?_, hbox.1, hbox.2⟩
        exact .msl _ _ _ _ _ _ (by simp [Mem.newBox]) o4
    · cases hb
  · -- the owner's row
    rename_i b es hse
    split at hok
    · rename_i m hbt
      obtain ⟨hap, rfl⟩ := hok
      obtain ⟨news, n1, n2, n3, n4, n5, h⟩ := main (.tip b) es hse hap (.inr ⟨b, rfl, hbt⟩)
      rw [hse] at hvs
      have hall : ∀ c ∈ es ++ ys, c.length = szOf X.P e := fun c hc => flen es n4 c hc n5
      have hl : (es ++ ys).length = es.length + ys.length := List.length_append
      have hlt : b < H.n := by
        rcases Nat.lt_or_ge b H.n with q | q
        · exact q
        · rw [hs.fresh b q] at hbt; cases hbt
      rcases h with ⟨rfl, hrun⟩ | ⟨hy0, olds, rest, cap, o1, o2, o3, o4, o5, o6, hrun⟩ | ⟨hy0, b', tp, cur, el, hb, t1, t2, t3, t4, t5, ⟨_, t6, rfl⟩, t7, hrun⟩
      · rw [List.append_nil]
        refine ⟨ρc s, _, w, μ, by rw [hexec, hrun]; rfl, .inl rfl, hvs, Ext.refl μ, ?_⟩
        have e1 : apps [Eff.tip b (es.length + ([] : List (List V)).length)] H = H := by
          simp only [apps, Eff.app, AHeap.tip, List.length_nil, Nat.add_zero]
          congr 1
          funext i
          split
          · rename_i hi; subst hi; exact hbt.symm
          · rfl
        rw [e1]
        exact hs
      · have hfl : VReps μ (es ++ ys).flatten (olds ++ news) := by rw [List.flatten_append]; exact o2.append n2
        have h1 : ∀ y ∈ olds ++ news, y.oneCell' = true := fun y hy => by
          rcases List.mem_append.1 hy with hy | hy
          · exact o3 y hy
          · exact n3 y hy
        have htip := hs.drew.reTip (H' := H.tip b (es.length + ys.length)) (id := b) (n := es.length + ys.length) (cap := cap) (sz := szOf X.P e) (olds ++ news) rest e
          (fun i hi => by simp [AHeap.tip, hi]) (by simp [AHeap.tip]) (by simp [AHeap.tip]) (by simpa [AHeap.tip] using hlt) (by simp [hbt]) (by simp [hbt]) (by simp [hbt])
          (fun t ht => by
            have := (hs.tip b t ht).1
            rw [hbt] at this
            injection this with this
            injection this with this
            omega) (by omega) (by rw [List.length_append, o1, n1, Nat.add_mul]) o5 o4 h1
        refine ⟨_, _, _, _, by rw [hexec, hrun]; rfl, .inl rfl, ?_, htip.1, htip.2⟩
        have hx := slc_of_imm (o := .tip b) (c := w.heap.size) (cap := cap) hall (fun k _ => by simp [Mem.reTip]) (hfl.mono htip.1) (by omega) (ownOk_tip ⟨w.heap.size, es.length + ys.length, cap, szOf X.P e⟩ (by simp [Mem.reTip]) (by simp only; omega) (fun _ => ⟨rfl, rfl, rfl, rfl⟩))
        rw [hl] at hx
        exact hx
      · injection hb with hb
        subst hb
        have hgrow := hs.growTip t1 (k := ys.length) hy0 news (by rw [n1, t3]) t4 t5 n3
        refine ⟨_, _, _, _, by rw [hexec, hrun]; rfl, .inl rfl, ?_, hgrow.1, by rw [← t2]; exact hgrow.2⟩
        -- the elements: the old ones where they lay, the new ones behind
        rcases vrep_slc t7 with ⟨_, q⟩ | ⟨c, off, cap2, sz, xs, q, hcap, hszz, hcc, hrr, hoo⟩
        · rw [t6] at q; cases q
        · rw [t6] at q
          injection q with q1 q2 q3
          injection q1 with q1
          injection q1 with q1 q4
          subst q1; subst q4; subst q3
          rw [← hl]
          have h0 : 0 < es.length := by
            have := (hs.tip b tp t1).2.2.1.2; omega
          have hsz : sz = szOf X.P e := by
            rw [← hszz 0 h0]
            apply n4
            simp only [List.getD, List.getElem?_eq_getElem h0, Option.getD_some]
            exact List.getElem_mem h0
          subst hsz
          refine .slc (.tip b) (es ++ ys) tp.c 0 (es ++ ys).length tp.cap (szOf X.P e) (fun i j => if i < es.length then xs i j else news.getD ((i - es.length) * szOf X.P e + j) undef) rfl (by rw [hl, ← t2]; exact t4)
            (fun i hi => ?_) (fun i j hi hj => ?_) (fun i j hi hj => ?_) (ownOk_tip (μ := μ.growTip b tp ys.length news) { tp with n := tp.n + ys.length } (if_pos rfl) (by rw [hl]; show es.length + ys.length ≤ tp.n + ys.length; omega) (fun _ => ⟨rfl, rfl, rfl, t3⟩))
          · have : (es ++ ys)[i]? = some (es ++ ys)[i] := List.getElem?_eq_getElem hi
            simp only [List.getD, this, Option.getD_some]
            exact hall _ (List.getElem_mem hi)
          · by_cases hie : i < es.length
            · simp only [hie, if_true]
              exact hgrow.1.imm _ _ _ (hcc i j hie hj)
            · simp only [hie, if_false]
              have hk : (i - es.length) * szOf X.P e + j < ys.length * szOf X.P e := by
                have : i - es.length < ys.length := by omega
                calc (i - es.length) * szOf X.P e + j < (i - es.length) * szOf X.P e + szOf X.P e := by omega
                  _ = (i - es.length + 1) * szOf X.P e := by rw [Nat.add_mul, Nat.one_mul]
                  _ ≤ ys.length * szOf X.P e := Nat.mul_le_mul_right _ this
              have ei : i * szOf X.P e = es.length * szOf X.P e + (i - es.length) * szOf X.P e := by rw [← Nat.add_mul]; congr 1; omega
              simp only [Mem.growTip]
              rw [t2, t3, if_pos ⟨trivial, by omega, by omega⟩]
              have : 0 + i * szOf X.P e + j - es.length * szOf X.P e = (i - es.length) * szOf X.P e + j := by omega
              rw [this]
              simp [List.getD, List.getElem?_eq_getElem (show (i - es.length) * szOf X.P e + j < news.length by omega)]
          · by_cases hie : i < es.length
            · simp only [hie, if_true]
              have := (hrr i j hie hj).mono hgrow.1
              simpa [List.getD, List.getElem?_append_left hie] using this
            · simp only [hie, if_false]
              have hi' : i - es.length < ys.length := by omega
              have hk : (i - es.length) * szOf X.P e + j < ys.flatten.length := by
                rw [flatten_len n5]
                calc (i - es.length) * szOf X.P e + j < (i - es.length) * szOf X.P e + szOf X.P e := by omega
                  _ = (i - es.length + 1) * szOf X.P e := by rw [Nat.add_mul, Nat.one_mul]
                  _ ≤ ys.length * szOf X.P e := Nat.mul_le_mul_right _ hi'
              have h1 := (n2.2 _ hk).mono hgrow.1
              rw [flatten_get n5 _ _ hi' hj] at h1
              simpa [List.getD, List.getElem?_append_right (Nat.le_of_not_lt hie)] using h1
    · exact hok.elim
  · exact hok.elim

end
end Go.Alt
