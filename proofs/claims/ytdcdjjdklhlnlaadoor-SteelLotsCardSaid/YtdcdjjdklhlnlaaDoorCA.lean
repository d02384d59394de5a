/- Contracts of small functions. No condition. -/
import Derived.Test.YtdcdjjdklhlnlaaDoorWA
namespace Go.Proofs.YtdcdjjdklhlnlaaDoor
open Go Go.RowKit Go.Alt

theorem cWithin (n lo hi : Int) : PureCall X 21 [.int .i64 n, .int .i64 lo, .int .i64 hi] (.bool (decide (lo ≤ n) && decide (n ≤ hi))) := by
  refine pureX Tryd.func21 (by kernel_rfl) (by kernel_rfl) (by kernel_rfl) (by simp) (by simp) (w_within n lo hi _ ?_)
  simp
def mWithin : List V → Option V
  | [.int .i64 n, .int .i64 lo, .int .i64 hi] => some (.bool (decide (lo ≤ n) && decide (n ≤ hi)))
  | _ => none
theorem eWithin : EntOk X (21, mWithin) := by
  intro args r h
  simp only [mWithin] at h
  split at h
  · cases h; exact cWithin _ _ _
  · cases h
theorem cBWithin (n lo hi : Int) : PureCall X 26 [.int .i64 n, .int .i64 lo, .int .i64 hi] (.bool (decide (lo ≤ n) && decide (n ≤ hi))) := by
  refine pureX Tryd.func26 (by kernel_rfl) (by kernel_rfl) (by kernel_rfl) (by simp) (by simp) (w_bwithin n lo hi _ ?_)
  simp
theorem eBWithin : EntOk X (26, mWithin) := by
  intro args r h
  simp only [mWithin] at h
  split at h
  · cases h; exact cBWithin _ _ _
  · cases h

theorem cUnless (b : Bool) (e : Int) : PureCall X 19 [.bool b, .int .i64 e] (.int .i64 (if b = true then 0 else e)) := by
  refine pureX Tryd.func19 (by kernel_rfl) (by kernel_rfl) (by kernel_rfl) (by simp) (by simp) (w_unless b e _ ?_)
  cases b <;> simp
def mUnless : List V → Option V
  | [.bool b, .int .i64 e] => some (.int .i64 (if b = true then 0 else e))
  | _ => none
theorem eUnless : EntOk X (19, mUnless) := by
  intro args r h
  simp only [mUnless] at h
  split at h
  · cases h; exact cUnless _ _
  · cases h

/-- Slices of numbers. -/
def ints (l : List Int) : List (List V) := l.map fun n => [.int .i64 n]
def intsOf : List (List V) → Option (List Int)
  | [] => some []
  | [.int .i64 n] :: r => match intsOf r with | some l => some (n :: l) | none => none
  | _ :: _ => none
theorem intsOf_some : ∀ {es : List (List V)} {l : List Int}, intsOf es = some l → es = ints l
  | [], l, h => by cases h; rfl
  | c :: r, l, h => by
    unfold intsOf at h
    split at h
    · rename_i h1; cases h1
    · rename_i n r' h1
      cases h1
      split at h
      · rename_i l' h2
        cases h
        rw [intsOf_some h2]; rfl
      · cases h
    · cases h
@[simp] theorem ints_length (l : List Int) : (ints l).length = l.length := by simp [ints]
theorem ints_getD (l : List Int) (i : Nat) (h : i < l.length) : (ints l).getD i [] = [.int .i64 (l.getD i 0)] := by simp [ints, List.getD, h]
def firstE : List Int → Int
  | [] => 0
  | e :: r => if e = 0 then firstE r else e
theorem cFirst (o : Alt.Own) (ho : OwnLow 0 o) (l : List Int) (hlen : l.length ≤ 4611686018427387904) : PureCall X 17 [.slc o (ints l)] (.int .i64 (firstE l)) := by
  refine pureX Tryd.func17 (by kernel_rfl) (by kernel_rfl) (by kernel_rfl) (by simp [ho, ints]) (by simp) (w_first o (ints l) _ ?_)
  refine AW_loopK (by kernel_rfl) [7, 6, 5, 2] (fun i : Nat => [.int .i64 i, .int .i64 l.length, .slc o (ints l), .int .i64 0]) (fun _ => []) (fun i => l.length - i)
    (fun i => i ≤ l.length ∧ firstE l = firstE (l.drop i)) 0 ⟨Nat.zero_le _, rfl⟩ (by simp [aget]) rfl (fun i hi => by simp [ho, ints]) (fun i hI => w_first1 o (ints l) i l.length (l.getD i 0) 0 _ _ ?_)
  obtain ⟨h1, h2⟩ := hI
  refine ⟨fun hlt => ?_, fun hge => ?_⟩
  · have hlt : i < l.length := by simpa using hlt
    have hd : l.drop i = l.getD i 0 :: l.drop (i + 1) := by rw [List.drop_eq_getElem_cons hlt]; simp [List.getD, hlt]
    rw [hd] at h2
    simp only [firstE] at h2
    refine ⟨by omega, by simpa using hlt, ?_, ?_, fun hx => ?_, fun hx => ?_⟩
    · rw [Int.toNat_natCast, ints_getD _ _ hlt]; rfl
    · rw [Int.toNat_natCast, ints_getD _ _ hlt]
    · have hx : l.getD i 0 ≠ 0 := by simpa using hx
      rw [if_neg hx] at h2
      rw [h2]; exact VLe.rfl_ _
    · have hx : l.getD i 0 = 0 := by simpa using hx
      rw [if_pos hx] at h2
      refine ⟨i + 1, ⟨by omega, h2⟩, by omega, ?_, rfl⟩
      rw [wrap_succ hlt hlen]
      simp
  · have hge : l.length ≤ i := by simpa using hge
    rw [h2, List.drop_eq_nil_of_le hge]
    exact VLe.rfl_ _
def lowO0 : Alt.Own → Bool
  | .tip _ => false
  | _ => true
theorem lowO0_ok {o : Alt.Own} (h : lowO0 o = true) : OwnLow 0 o := by cases o <;> first | trivial | cases h
def mFirst : List V → Option V
  | [.slc o es] => match Nat.ble es.length 4611686018427387904 && lowO0 o with
    | true => (match intsOf es with | some l => some (.int .i64 (firstE l)) | none => none)
    | false => none
  | _ => none
theorem eFirst : EntOk X (17, mFirst) := by
  intro args r h
  simp only [mFirst] at h
  split at h
  · split at h
    · rename_i hb
      simp only [Bool.and_eq_true] at hb
      split at h
      · rename_i l hl
        cases h
        rw [intsOf_some hl]
        refine cFirst _ (lowO0_ok hb.2) l ?_
        have := Nat.le_of_ble_eq_true hb.1
        rw [intsOf_some hl] at this
        simpa using this
      · cases h
    · cases h
  · cases h
abbrev tA : List Ent := [(21, mWithin), (26, mWithin), (19, mUnless), (17, mFirst)]
theorem oA : EntsOk X tA := ⟨eWithin, eBWithin, eUnless, eFirst, trivial⟩
end Go.Proofs.YtdcdjjdklhlnlaaDoor
