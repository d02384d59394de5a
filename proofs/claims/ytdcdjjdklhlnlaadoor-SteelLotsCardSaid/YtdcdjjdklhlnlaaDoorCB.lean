/- Contracts of tests of numbers and names. No condition. -/
import Derived.Test.YtdcdjjdklhlnlaaDoorWB
namespace Go.Proofs.YtdcdjjdklhlnlaaDoor
open Go Go.RowKit Go.Alt

theorem cIsKelvin (n : Int) : PureCall X 44 [.int .i64 n] (.bool (decide (1 ≤ n) && decide (n ≤ 3000))) :=
  pureX Tryd.func44 (by kernel_rfl) (by kernel_rfl) (by kernel_rfl) (by simp) (by simp) (w_isKelvin n _ (VLe.rfl_ _))
theorem cKelvinErr (n : Int) : PureCall X 18 [.int .i64 n] (.int .i64 (if (decide (1 ≤ n) && decide (n ≤ 3000)) = true then 0 else 2)) :=
  pureX Tryd.func18 (by kernel_rfl) (by kernel_rfl) (by kernel_rfl) (by simp) (by simp) (w_kelvinErr n _ ⟨cIsKelvin n, VLe.rfl_ _⟩)
theorem cRIsKelvin (n : Int) : PureCall X 24 [.int .i64 n] (.bool (decide (1 ≤ n) && decide (n ≤ 3000))) :=
  pureX Tryd.func24 (by kernel_rfl) (by kernel_rfl) (by kernel_rfl) (by simp) (by simp) (w_rIsKelvin n _ (VLe.rfl_ _))
theorem cIsAmount (n : Int) : PureCall X 20 [.int .i64 n] (.bool (decide (0 ≤ n) && decide (n ≤ 10000))) :=
  pureX Tryd.func20 (by kernel_rfl) (by kernel_rfl) (by kernel_rfl) (by simp) (by simp) (w_isAmount n _ (VLe.rfl_ _))

/-- Division by a number, rounded down, as Go does it. -/
def floorE (n d : Int) : Int := if n.tmod d < 0 then IntKind.i64.wrap (IntKind.i64.wrap (n.tdiv d) - 1) else IntKind.i64.wrap (n.tdiv d)
theorem cFloor (n d : Int) (hd : d ≠ 0) : PureCall X 27 [.int .i64 n, .int .i64 d] (.int .i64 (floorE n d)) := by
  refine pureX Tryd.func27 (by kernel_rfl) (by kernel_rfl) (by kernel_rfl) (by simp) (by simp) (w_floor n d _ ⟨hd, hd, fun h => ?_, fun h => ?_⟩)
  · simp only [decide_eq_true_eq] at h
    rw [floorE, if_pos h]; exact VLe.rfl_ _
  · simp only [decide_eq_false_iff_not] at h
    rw [floorE, if_neg h]; exact VLe.rfl_ _
theorem cSFloor (n : Int) : PureCall X 23 [.int .i64 n] (.int .i64 (floorE n 1000)) := by
  refine pureX Tryd.func23 (by kernel_rfl) (by kernel_rfl) (by kernel_rfl) (by simp) (by simp) (w_sfloor n _ ⟨by decide, by decide, fun h => ?_, fun h => ?_⟩)
  · simp only [decide_eq_true_eq] at h
    rw [floorE, if_pos h]; exact VLe.rfl_ _
  · simp only [decide_eq_false_iff_not] at h
    rw [floorE, if_neg h]; exact VLe.rfl_ _
theorem cCeil (n d : Int) (hd : d ≠ 0) : PureCall X 28 [.int .i64 n, .int .i64 d] (.int .i64 (IntKind.i64.wrap (0 - floorE (IntKind.i64.wrap (0 - n)) d))) :=
  pureX Tryd.func28 (by kernel_rfl) (by kernel_rfl) (by kernel_rfl) (by simp) (by simp) (w_ceil n d _ _ ⟨cFloor _ _ hd, VLe.rfl_ _⟩)

/-! Names. -/
def letterE (c : Int) : Bool := (decide (97 ≤ c) && decide (c ≤ 122)) || (decide (65 ≤ c) && decide (c ≤ 90))
def charE (i : Int) (c : Int) : Bool := letterE c || (!(i == 0) && (c == 45 || (decide (48 ≤ c) && decide (c ≤ 57))))
def charsE : Nat → List UInt8 → Bool
  | _, [] => true
  | i, c :: r => charE i c.toNat && charsE (i + 1) r
def nameE (s : ByteArray) : Bool := charsE 0 s.data.toList && (decide (1 ≤ (s.size : Int)) && decide ((s.size : Int) ≤ 12))
theorem wrap_byte (c : UInt8) : IntKind.i64.wrap (c.toNat : Int) = c.toNat := IntWalk.i64_in _ (by have := c.toNat_lt; omega)
theorem charsE_drop (l : List UInt8) {i : Nat} (hi : i < l.length) : charsE i (l.drop i) = (charE i (l.getD i 0).toNat && charsE (i + 1) (l.drop (i + 1))) := by
  rw [List.drop_eq_getElem_cons hi]
  simp [charsE, List.getD, hi]
theorem name_round (i c : Int) : (if (!(if (decide (97 ≤ c) && decide (c ≤ 122)) = true then true else decide (65 ≤ c) && decide (c ≤ 90))) = true then if (i == 0) = true then true else if (c != 45) = true then !(decide (48 ≤ c) && decide (c ≤ 57)) else false else false) = !charE i c := by
  unfold charE letterE
  by_cases h1 : (decide (97 ≤ c) && decide (c ≤ 122)) = true
  · rw [h1]; simp
  · simp only [Bool.not_eq_true] at h1
    rw [h1]
    cases h2 : (decide (65 ≤ c) && decide (c ≤ 90)) <;> cases h3 : (i == 0) <;> cases h4 : (c == 45) <;> simp_all [bne]
theorem cIsName (s : ByteArray) (hs : s.size ≤ 4611686018427387904) : PureCall X 22 [.str s] (.bool (nameE s)) := by
  refine pureX Tryd.func22 (by kernel_rfl) (by kernel_rfl) (by kernel_rfl) (by simp) (by simp) (w_isName s _ ?_)
  have hl : s.data.toList.length = s.size := by simp
  refine AW_loopK (by kernel_rfl) [8, 7, 2, 0] (fun i : Nat => [.int .i64 i, .int .i64 s.size, .bool false, .str s]) (fun _ => []) (fun i => s.size - i)
    (fun i => i ≤ s.size ∧ charsE 0 s.data.toList = charsE i (s.data.toList.drop i)) 0 ⟨Nat.zero_le _, rfl⟩ (by simp [aget]) rfl (fun i hi => by simp)
    (fun i hI => w_isName1 s i (s.data.getD i 0).toNat (if (decide (97 ≤ ((s.data.getD i 0).toNat : Int)) && decide (((s.data.getD i 0).toNat : Int) ≤ 122)) = true then true else decide (65 ≤ ((s.data.getD i 0).toNat : Int)) && decide (((s.data.getD i 0).toNat : Int) ≤ 90)) _ _ ?_)
  obtain ⟨h1, h2⟩ := hI
  refine ⟨fun hlt => ?_, fun hge => ?_⟩
  · have hlt : i < s.size := by simpa using hlt
    have hd := charsE_drop s.data.toList (i := i) (by omega)
    have hg : s.data.toList.getD i 0 = s.data.getD i 0 := by simp [List.getD]
    rw [hg] at hd
    rw [name_round]
    refine ⟨by omega, by simpa using hlt, ?hc, ?_, ?_, rfl, ?_, ?_, ?_, ?_, ?_, ?_, ?_, ?_, ?_, ?_, ?_, fun hx => ?e1, fun hx => ?e2⟩
    case hc => rw [Int.toNat_natCast]; exact congrArg (V.int .i64) (wrap_byte _)
    case e1 =>
      have hx : charE i (s.data.getD i 0).toNat = false := by simpa using hx
      rw [nameE, h2, hd, hx]; exact VLe.rfl_ _
    case e2 =>
      have hx : charE i (s.data.getD i 0).toNat = true := by simpa using hx
      rw [hx, Bool.true_and] at hd
      refine ⟨i + 1, ⟨by omega, by rw [h2, hd]⟩, by omega, ?_, rfl⟩
      rw [wrap_succ hlt hs]
      simp
    all_goals first | exact fun h => h | (intro h; rw [h]; rfl) | (intro h1 h2; rw [h1, h2]; rfl)
  · have hge : s.size ≤ i := by simpa using hge
    rw [nameE, h2, List.drop_eq_nil_of_le (by omega)]
    exact VLe.rfl_ _
theorem bname_round (i c : Int) (l1 l2 : Bool) (h1 : l1 = if decide (c ≥ 97) = true then decide (c ≤ 122) else false) (h2 : l2 = if l1 = true then true else if decide (c ≥ 65) = true then decide (c ≤ 90) else false) :
    (if (!l2) = true then if (i == 0) = true then true else if (c != 45) = true then if decide (c < 48) = true then true else decide (c > 57) else false else false) = !charE i c := by
  have e1 : l1 = (decide (97 ≤ c) && decide (c ≤ 122)) := by rw [h1]; by_cases h : 97 ≤ c <;> simp [h]
  have e2 : l2 = letterE c := by
    rw [h2, e1]; unfold letterE
    cases (decide (97 ≤ c) && decide (c ≤ 122)) <;> simp
  rw [e2]
  unfold charE
  cases letterE c <;> simp
  cases h3 : (i == 0) <;> cases h4 : (c == 45) <;> simp_all [bne]
  by_cases h : c < 48
  · have : ¬ 48 ≤ c := by omega
    simp [h, this]
  · have h5 : 48 ≤ c := by omega
    by_cases h' : c ≤ 57
    · have : ¬ 57 < c := by omega
      simp [h, h5, h', this]
    · have : 57 < c := by omega
      simp [h, h5, h', this]
theorem cBIsName (s : ByteArray) (hs : s.size ≤ 4611686018427387904) : PureCall X 25 [.str s] (.bool (nameE s)) := by
  refine pureX Tryd.func25 (by kernel_rfl) (by kernel_rfl) (by kernel_rfl) (by simp) (by simp) (w_bIsName s _ ⟨by simp, by simp, by simp, fun h => ?_, fun h => ?_⟩)
  · have : (decide (1 ≤ (s.size : Int)) && decide ((s.size : Int) ≤ 12)) = false := by
      by_cases h1 : (s.size : Int) < 1
      · simp; omega
      · simp [h1] at h; simp; omega
    rw [nameE, this, Bool.and_false]
    exact VLe.rfl_ _
  have hsz : (decide (1 ≤ (s.size : Int)) && decide ((s.size : Int) ≤ 12)) = true := by
    by_cases h1 : (s.size : Int) < 1
    · simp [h1] at h
    · simp [h1] at h; simp; omega
  have hl : s.data.toList.length = s.size := by simp
  let L1 : Nat → Bool := fun i => if decide (((s.data.getD i 0).toNat : Int) ≥ 97) = true then decide (((s.data.getD i 0).toNat : Int) ≤ 122) else false
  let L2 : Nat → Bool := fun i => if L1 i = true then true else if decide (((s.data.getD i 0).toNat : Int) ≥ 65) = true then decide (((s.data.getD i 0).toNat : Int) ≤ 90) else false
  refine AW_loopK (by kernel_rfl) [3, 2, 0] (fun i : Nat => [.int .i64 i, .bool false, .str s]) (fun _ => []) (fun i => s.size - i)
    (fun i => i ≤ s.size ∧ charsE 0 s.data.toList = charsE i (s.data.toList.drop i)) 0 ⟨Nat.zero_le _, rfl⟩ (by simp [aget]) rfl (fun i hi => by simp)
    (fun i hI => w_bIsName1 s i (s.data.getD i 0).toNat (L1 i) (L2 i) _ _ ?_)
  obtain ⟨h1, h2⟩ := hI
  refine ⟨fun hlt => ?_, fun hge => ?_⟩
  · have hlt : i < s.size := by simpa using hlt
    have hd := charsE_drop s.data.toList (i := i) (by omega)
    have hg : s.data.toList.getD i 0 = s.data.getD i 0 := by simp [List.getD]
    rw [hg] at hd
    rw [bname_round _ _ (L1 i) (L2 i) rfl rfl]
    refine ⟨by omega, by simpa using hlt, ?hc, ?_, ?_, rfl, ?_, ?_, ?_, ?_, ?_, ?_, rfl, ?_, ?_, ?_, ?_, ?_, ?_, ?_, ?_, ?_, ?_, ?_, ?_, ?_, ?_, fun hx => ?e1, fun hx => ?e2⟩
    case hc => rw [Int.toNat_natCast]
    case e1 =>
      have hx : charE i (s.data.getD i 0).toNat = false := by simpa using hx
      rw [nameE, h2, hd, hx]; exact VLe.rfl_ _
    case e2 =>
      have hx : charE i (s.data.getD i 0).toNat = true := by simpa using hx
      rw [hx, Bool.true_and] at hd
      refine ⟨i + 1, ⟨by omega, by rw [h2, hd]⟩, by omega, ?_, rfl⟩
      rw [wrap_succ hlt hs]
      simp
    all_goals first | exact fun h => h | (intro h; rw [h]; rfl) | (intro h1 h2; rw [h1, h2]; rfl)
  · have hge : s.size ≤ i := by simpa using hge
    rw [nameE, h2, List.drop_eq_nil_of_le (by omega), hsz]
    exact VLe.rfl_ _

def mKelvin : List V → Option V
  | [.int .i64 n] => some (.bool (decide (1 ≤ n) && decide (n ≤ 3000)))
  | _ => none
theorem eIsKelvin : EntOk X (44, mKelvin) := by
  intro args r h
  simp only [mKelvin] at h
  split at h
  · cases h; exact cIsKelvin _
  · cases h
theorem eRIsKelvin : EntOk X (24, mKelvin) := by
  intro args r h
  simp only [mKelvin] at h
  split at h
  · cases h; exact cRIsKelvin _
  · cases h
def mKelvinErr : List V → Option V
  | [.int .i64 n] => some (.int .i64 (if (decide (1 ≤ n) && decide (n ≤ 3000)) = true then 0 else 2))
  | _ => none
theorem eKelvinErr : EntOk X (18, mKelvinErr) := by
  intro args r h
  simp only [mKelvinErr] at h
  split at h
  · cases h; exact cKelvinErr _
  · cases h
def mAmount : List V → Option V
  | [.int .i64 n] => some (.bool (decide (0 ≤ n) && decide (n ≤ 10000)))
  | _ => none
theorem eIsAmount : EntOk X (20, mAmount) := by
  intro args r h
  simp only [mAmount] at h
  split at h
  · cases h; exact cIsAmount _
  · cases h
def mSFloor : List V → Option V
  | [.int .i64 n] => some (.int .i64 (floorE n 1000))
  | _ => none
theorem eSFloor : EntOk X (23, mSFloor) := by
  intro args r h
  simp only [mSFloor] at h
  split at h
  · cases h; exact cSFloor _
  · cases h
abbrev tB : List Ent := (44, mKelvin) :: (24, mKelvin) :: (18, mKelvinErr) :: (20, mAmount) :: (23, mSFloor) :: tA
theorem oB : EntsOk X tB := ⟨eIsKelvin, eRIsKelvin, eKelvinErr, eIsAmount, eSFloor, oA⟩
end Go.Proofs.YtdcdjjdklhlnlaaDoor
