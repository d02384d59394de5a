/- Contracts of analyses: which are valid, in both texts. No condition. -/
import Derived.Test.YtdcdjjdklhlnlaaDoorWC
namespace Go.Proofs.YtdcdjjdklhlnlaaDoor
open Go Go.RowKit Go.Alt

structure El where
  name : ByteArray
  lo : Int
  hi : Int
  w : Int
instance : Inhabited El := ⟨⟨ByteArray.empty, 0, 0, 0⟩⟩
def elV (x : El) : List V := [.str x.name, .int .i64 x.lo, .int .i64 x.hi, .int .i64 x.w]
def els (l : List El) : List (List V) := l.map elV
@[simp] theorem els_length (l : List El) : (els l).length = l.length := by simp [els]
theorem els_getD (l : List El) (i : Nat) (h : i < l.length) : (els l).getD i [] = elV (l.getD i default) := by simp [els, List.getD, h]
theorem els_low (l : List El) : ∀ c ∈ els l, LowL 0 c := by
  intro c hc
  simp only [els, List.mem_map] at hc
  obtain ⟨x, _, rfl⟩ := hc
  simp [elV]
theorem els_low' (n : Nat) (l : List El) : ∀ c ∈ els l, LowL n c := fun c hc => LowL.mono (Nat.zero_le n) (els_low l c hc)
theorem els_len4 (l : List El) : ∀ c ∈ els l, c.length = 4 := by
  intro c hc
  simp only [els, List.mem_map] at hc
  obtain ⟨x, _, rfl⟩ := hc
  rfl
theorem drop_getD (l : List El) {i : Nat} (h : i < l.length) : l.drop i = l.getD i default :: l.drop (i + 1) := by
  rw [List.drop_eq_getElem_cons h]; simp [List.getD, h]

def rangeE (x : El) : Bool := decide (0 ≤ x.lo) && decide (x.lo ≤ 10000) && (decide (0 ≤ x.hi) && decide (x.hi ≤ 10000)) && (decide (0 ≤ x.w) && decide (x.w ≤ 1000))
def seenE (l : List ByteArray) (s : ByteArray) : Bool := l.any fun b => decide (s = b)
def elErr (seen : Bool) (x : El) : Int := if nameE x.name = true then (if seen = true then 5 else if rangeE x = true then (if x.lo ≤ x.hi then 0 else 9) else 2) else 4
def chkL : Nat → List ByteArray → List El → Int × Int
  | _, _, [] => (0, 0)
  | i, seen, x :: r => if elErr (seenE seen x.name) x = 0 then chkL (i + 1) (seen ++ [x.name]) r else ((i : Int), elErr (seenE seen x.name) x)
def headErr (st : Int) (n : Nat) : Int := if (decide (1 ≤ st) && decide (st ≤ 3000)) = true then (if n ≤ 8 then 0 else 8) else 2
def chk (st : Int) (l : List El) : Int × Int := if headErr st l.length = 0 then chkL 0 [] l else (0, headErr st l.length)

def ents (l : List ByteArray) : List (V × V) := l.map fun b => (V.str b, V.bool true)
theorem ba_beq (a b : ByteArray) : (a == b) = decide (a = b) := by
  cases a with
  | mk x =>
    cases b with
    | mk y =>
      show (x == y) = _
      by_cases h : x = y <;> simp [h]
theorem key_str (a b : ByteArray) : keyEq (.str a) (.str b) = some (decide (a = b)) := by
  simp only [keyEq, ba_beq]
theorem mfind_ents (s : ByteArray) : ∀ (l : List ByteArray) (i : Nat), (seenE l s = false → mfind (.str s) (ents l) i = some none) ∧ (seenE l s = true → ∃ j, mfind (.str s) (ents l) i = some (some (j, .bool true)))
  | [], i => ⟨fun _ => rfl, fun h => by simp [seenE] at h⟩
  | b :: l, i => by
    have ih := mfind_ents s l (i + 1)
    simp only [ents, List.map_cons, mfind, key_str, seenE, List.any_cons]
    by_cases h : s = b
    · simp [h]
    · simp only [h, decide_false, Bool.false_or]
      exact ih
theorem lk_ents (s : ByteArray) (l : List ByteArray) : lkV (.bool false) (.str s) (ents l) = some (.bool (seenE l s)) := by
  have h := mfind_ents s l 0
  unfold lkV
  cases hs : seenE l s with
  | false => rw [h.1 hs]
  | true => obtain ⟨j, hj⟩ := h.2 hs; rw [hj]
theorem mset_ents (s : ByteArray) (l : List ByteArray) (hs : seenE l s = false) : msetE (.str s) (.bool true) (ents l) = some (ents (l ++ [s])) := by
  have h := mfind_ents s l 0
  unfold msetE
  rw [h.1 hs]
  simp [ents]
theorem firstE_eq (b1 seen b4 : Bool) (x : El) (h1 : b1 = nameE x.name) (h4 : b4 = rangeE x) :
    firstE [if b1 = true then 0 else 4, if (!seen) = true then 0 else 5, if b4 = true then 0 else 2, if decide (x.lo ≤ x.hi) = true then 0 else 9] = elErr seen x := by
  subst h1; subst h4
  simp only [firstE, elErr]
  cases nameE x.name <;> cases seen <;> cases rangeE x <;> by_cases h : x.lo ≤ x.hi <;> simp [h]
theorem elErr_seen {seen : Bool} {x : El} (h : elErr seen x = 0) : seen = false := by
  cases seen with
  | false => rfl
  | true => simp only [elErr] at h; split at h <;> simp at h
theorem names_take (l : List El) {i : Nat} (h : i < l.length) : ((l.take (i + 1)).map El.name) = (l.take i).map El.name ++ [(l.getD i default).name] := by
  rw [List.take_succ_eq_append_getElem h, List.map_append]
  congr 1
  simp [List.getD, h]
theorem ents_low (n : Nat) (l : List ByteArray) : LowM n (ents l) := by
  intro p hp
  simp only [ents, List.mem_map] at hp
  obtain ⟨b, _, rfl⟩ := hp
  simp

theorem cCheckA (st : Int) (o : Alt.Own) (ho : OwnLow 0 o) (l : List El) (hlen : l.length ≤ 4611686018427387904) (hnm : ∀ x ∈ l, x.name.size ≤ 4611686018427387904) :
    PureCall X 5 [.agg [.int .i64 st, .slc o (els l)]] (.tup [.int .i64 (chk st l).1, .int .i64 (chk st l).2]) := by
  have ho2 : OwnLow 2 o := ho.mono (by omega)
  refine pureX Tryd.func5 (by kernel_rfl) (by kernel_rfl) (by kernel_rfl) (by simp [ho]; exact els_low l) (by simp) (w_checkA st o (els l) (headErr st l.length) _ ⟨?_, fun h => ?_, fun h => ?_⟩)
  · congr 1
    simp only [firstE, headErr, els_length]
    by_cases h1 : (decide (1 ≤ st) && decide (st ≤ 3000)) = true <;> by_cases h2 : l.length ≤ 8 <;> simp [h1, h2] <;> omega
  · have h : headErr st l.length ≠ 0 := by simpa using h
    simp only [chk, if_neg h]
    exact VLe.rfl_ _
  have h : headErr st l.length = 0 := by simpa using h
  simp only [chk, if_pos h]
  refine AW_loopK (by kernel_rfl) [27, 26, 25, 6, 5, 3, 2] (fun i : Nat => [.int .i64 i, .int .i64 l.length, .slc o (els l), .mp 1, .fn (.func 20) [] [], .int .i64 0, .int .i64 0])
    (fun i => [.box [.int .i64 st, .slc o (els l)], .map (ents ((l.take i).map El.name))]) (fun i => l.length - i)
    (fun i => i ≤ l.length ∧ chkL 0 [] l = chkL i ((l.take i).map El.name) (l.drop i)) 0 ⟨Nat.zero_le _, rfl⟩ (by simp [aget]) (by simp [ents])
    (fun i hi => ⟨by simp [ho2]; exact els_low' _ l, by simp [ho2]; exact ⟨els_low' _ l, ents_low _ _⟩, rfl⟩)
    (fun i hI => w_checkA1 st o (els l) i l.length (ents ((l.take i).map El.name)) (ents ((l.take (i + 1)).map El.name)) (l.getD i default).name (l.getD i default).lo (l.getD i default).hi (l.getD i default).w
      (nameE (l.getD i default).name) (seenE ((l.take i).map El.name) (l.getD i default).name) (decide (0 ≤ (l.getD i default).lo) && decide ((l.getD i default).lo ≤ 10000))
      (decide (0 ≤ (l.getD i default).lo) && decide ((l.getD i default).lo ≤ 10000) && (decide (0 ≤ (l.getD i default).hi) && decide ((l.getD i default).hi ≤ 10000))) (rangeE (l.getD i default)) (elErr (seenE ((l.take i).map El.name) (l.getD i default).name) (l.getD i default)) _ _ ?_)
  obtain ⟨h1, h2⟩ := hI
  refine ⟨fun hlt => ?_, fun hge => ?_⟩
  · have hlt : i < l.length := by simpa using hlt
    have hmem : l.getD i default ∈ l := by simp [List.getD, hlt]
    rw [drop_getD l hlt] at h2
    generalize hx : l.getD i default = x at *
    simp only [chkL] at h2
    refine ⟨by omega, by simpa using hlt, ?_, ?_, cIsName _ (hnm x hmem), lk_ents _ _, rfl, fun h => h, fun h => h, fun h => h, fun h => h, fun h => h, ?_, fun h => h, fun h => h, fun h => h, ?_, congrArg _ (firstE_eq _ _ _ _ rfl rfl), fun he => ?_, fun he => ?_⟩
    · rw [Int.toNat_natCast, els_getD _ _ hlt]; rfl
    · rw [Int.toNat_natCast, els_getD _ _ hlt, hx]; rfl
    · cases (decide (0 ≤ x.lo) && decide (x.lo ≤ 10000)) <;> simp
    · unfold rangeE
      cases (decide (0 ≤ x.lo) && decide (x.lo ≤ 10000) && (decide (0 ≤ x.hi) && decide (x.hi ≤ 10000))) <;> simp
    · have he : elErr (seenE ((l.take i).map El.name) x.name) x ≠ 0 := by simpa using he
      rw [if_neg he] at h2
      rw [h2]; exact VLe.rfl_ _
    · have he : elErr (seenE ((l.take i).map El.name) x.name) x = 0 := by simpa using he
      rw [if_pos he] at h2
      have hn := names_take l hlt
      rw [hx] at hn
      rw [hn]
      refine ⟨mset_ents _ _ (elErr_seen he), i + 1, ⟨by omega, by rw [h2, hn]⟩, by omega, ?_, by simp [hn]⟩
      rw [wrap_succ hlt hlen]
      simp
  · have hge : l.length ≤ i := by simpa using hge
    rw [h2, List.drop_eq_nil_of_le hge]
    exact VLe.rfl_ _
end Go.Proofs.YtdcdjjdklhlnlaaDoor
