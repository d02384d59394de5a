/- Contracts of analyses: the other text's check, and the start of martensite in both texts. No condition. -/
import Derived.Test.YtdcdjjdklhlnlaaDoorCC
import Derived.Laws.Strings
namespace Go.Proofs.YtdcdjjdklhlnlaaDoor
open Go Go.RowKit Go.Alt

theorem str_beq (a b : ByteArray) : (a.toList == b.toList) = decide (a = b) := by
  rw [ByteArray.toList_eq, ByteArray.toList_eq]
  cases a with
  | mk x =>
    cases b with
    | mk y =>
      by_cases h : x = y
      · simp [h]
      · simp [h]
theorem seen_succ (l : List El) {k : Nat} (h : k < l.length) (s : ByteArray) : seenE ((l.take (k + 1)).map El.name) s = (seenE ((l.take k).map El.name) s || decide (s = (l.getD k default).name)) := by
  rw [names_take l h]
  simp [seenE]
theorem seen_mono (l : List El) {k i : Nat} (h : k ≤ i) (s : ByteArray) (hs : seenE ((l.take k).map El.name) s = true) : seenE ((l.take i).map El.name) s = true := by
  simp only [seenE, List.any_eq_true] at hs ⊢
  obtain ⟨b, hb, hb2⟩ := hs
  exact ⟨b, (List.take_subset_take_left _ h |> List.map_subset _) hb, hb2⟩
theorem range_not (x : El) (b2 b3 : Bool) (h2 : b2 = !(decide (0 ≤ x.lo) && decide (x.lo ≤ 10000))) (h3 : b3 = if b2 = true then true else !(decide (0 ≤ x.hi) && decide (x.hi ≤ 10000))) :
    (if b3 = true then true else !(decide (0 ≤ x.w) && decide (x.w ≤ 1000))) = !rangeE x := by
  subst h2; subst h3
  unfold rangeE
  cases (decide (0 ≤ x.lo) && decide (x.lo ≤ 10000)) <;> cases (decide (0 ≤ x.hi) && decide (x.hi ≤ 10000)) <;> simp

theorem cRCheckA (st : Int) (o : Alt.Own) (ho : OwnLow 0 o) (l : List El) (hlen : l.length ≤ 4611686018427387904) (hnm : ∀ x ∈ l, x.name.size ≤ 4611686018427387904) :
    PureCall X 8 [.agg [.int .i64 st, .slc o (els l)]] (.tup [.int .i64 (chk st l).1, .int .i64 (chk st l).2]) := by
  have ho1 : OwnLow 1 o := ho.mono (by omega)
  have ho2 : OwnLow 2 o := ho.mono (by omega)
  have hhead : headErr st l.length = if (!(decide (1 ≤ st) && decide (st ≤ 3000))) = true then 2 else if decide ((l.length : Int) > 8) = true then 8 else 0 := by
    unfold headErr
    cases (decide (1 ≤ st) && decide (st ≤ 3000)) <;> by_cases h2 : l.length ≤ 8 <;> simp [h2] <;> omega
  refine pureX Tryd.func8 (by kernel_rfl) (by kernel_rfl) (by kernel_rfl) (by simp [ho]; exact els_low l) (by simp) (w_rCheckA st o (els l) _ ⟨fun h => ?_, fun h => ⟨fun h3 => ?_, fun h3 => ?_⟩⟩)
  · rw [if_pos h] at hhead
    have : headErr st l.length ≠ 0 := by rw [hhead]; decide
    simp only [chk, if_neg this, hhead]; exact VLe.rfl_ _
  · rw [els_length] at h3
    rw [if_neg (by rw [h]; simp), if_pos h3] at hhead
    have : headErr st l.length ≠ 0 := by rw [hhead]; decide
    simp only [chk, if_neg this, hhead]; exact VLe.rfl_ _
  rw [els_length] at h3
  rw [if_neg (by rw [h]; simp), if_neg (by rw [h3]; simp)] at hhead
  simp only [chk, if_pos hhead]
  refine AW_loopK (by kernel_rfl) [4, 3, 2, 1] (fun i : Nat => [.int .i64 i, .int .i64 0, .int .i64 0, .ptr 0 0])
    (fun i => [.box [.int .i64 st, .slc o (els l)]]) (fun i => l.length - i) (fun i => i ≤ l.length ∧ chkL 0 [] l = chkL i ((l.take i).map El.name) (l.drop i)) 0 ⟨Nat.zero_le _, rfl⟩ (by simp [aget]) rfl
    (fun i hi => ⟨by simp, by simp [ho1]; exact els_low' _ l, rfl⟩)
    (fun i hI => w_rCheckA1 st o (els l) i (l.getD i default).name (l.getD i default).lo (l.getD i default).hi (l.getD i default).w (nameE (l.getD i default).name) true true true _ _ ?_)
  obtain ⟨h1, h2⟩ := hI
  refine ⟨fun hlt => ?_, fun hge => ?_⟩
  · have hlt : i < l.length := by simpa using hlt
    have hmem : l.getD i default ∈ l := by simp [List.getD, hlt]
    rw [drop_getD l hlt] at h2
    generalize hx : l.getD i default = x at *
    simp only [chkL] at h2
    have hn := names_take l hlt
    rw [hx] at hn
    refine ⟨by omega, by simpa using hlt, ?_, ?_, cBIsName _ (hnm x hmem), fun hb => ?_, fun hb => ?_⟩
    · rw [Int.toNat_natCast, els_getD _ _ hlt]; rfl
    · rw [Int.toNat_natCast, els_getD _ _ hlt, hx]; rfl
    · have hb : nameE x.name = false := by simpa using hb
      have he : elErr (seenE ((l.take i).map El.name) x.name) x = 4 := by simp [elErr, hb]
      rw [if_neg (by rw [he]; decide), he] at h2
      rw [h2]; exact VLe.rfl_ _
    have hb : nameE x.name = true := by simpa using hb
    refine AW_loopK (by kernel_rfl) [6, 5, 4, 3, 2, 1] (fun k : Nat => [.int .i64 k, .ptr 1 0, .int .i64 i, .int .i64 0, .int .i64 0, .ptr 0 0])
      (fun k => [.box [.int .i64 st, .slc o (els l)], .box [.str x.name, .int .i64 x.lo, .int .i64 x.hi, .int .i64 x.w]]) (fun k => i - k) (fun k => k ≤ i ∧ seenE ((l.take k).map El.name) x.name = false) 0 ⟨Nat.zero_le _, rfl⟩ (by simp [aget]) rfl
      (fun k hk => ⟨by simp, by simp [ho2]; exact els_low' _ l, rfl⟩)
      (fun k hK => w_rCheckA2 st o (els l) i k x.name x.lo x.hi x.w (!(decide (0 ≤ x.lo) && decide (x.lo ≤ 10000))) (if (!(decide (0 ≤ x.lo) && decide (x.lo ≤ 10000))) = true then true else !(decide (0 ≤ x.hi) && decide (x.hi ≤ 10000))) (!rangeE x)
        (l.getD k default).name (l.getD k default).lo (l.getD k default).hi (l.getD k default).w _ _ _ ?_)
    obtain ⟨k1, k2⟩ := hK
    refine ⟨fun hkl => ?_, fun hkg => ?_⟩
    · have hkl : k < i := by simpa using hkl
      have hkl' : k < l.length := by omega
      have hs := seen_succ l hkl' x.name
      rw [k2, Bool.false_or] at hs
      refine ⟨by omega, by simp; omega, ?_, ?_, fun hq => ?_, fun hq => ?_⟩
      · rw [Int.toNat_natCast, els_getD _ _ hkl']; rfl
      · rw [Int.toNat_natCast, els_getD _ _ hkl']; rfl
      · rw [str_beq, decide_eq_true_eq] at hq
        rw [decide_eq_true hq.symm] at hs
        have hseen := seen_mono l (k := k + 1) (i := i) (by omega) x.name hs
        have he : elErr (seenE ((l.take i).map El.name) x.name) x = 5 := by simp only [elErr]; rw [if_pos hb, if_pos hseen]
        rw [if_neg (by rw [he]; decide), he] at h2
        rw [h2]; exact VLe.rfl_ _
      · rw [str_beq, decide_eq_false_iff_not] at hq
        rw [decide_eq_false (fun e => hq e.symm)] at hs
        refine ⟨k + 1, ⟨by omega, hs⟩, by omega, ?_, rfl⟩
        rw [wrap_succ hkl (by omega)]
        simp
    · have hkg : i ≤ k := by simpa using hkg
      have hki : k = i := by omega
      subst hki
      have he : elErr (seenE ((l.take k).map El.name) x.name) x = if rangeE x = true then (if x.lo ≤ x.hi then 0 else 9) else 2 := by simp only [elErr]; rw [if_pos hb, if_neg (by rw [k2]; decide)]
      refine ⟨rfl, fun h => h, fun h => h, fun h => h, fun h => h, fun h => by rw [h]; rfl, rfl, fun h => h, fun h => h, fun h => h, fun h => by rw [h]; rfl, congrArg _ (range_not x _ _ rfl rfl), fun hq => ?_, fun hq => ⟨fun hz => ?_, fun hz => ?_⟩⟩
      · have hq : rangeE x = false := by simpa using hq
        rw [if_neg (by rw [hq]; simp)] at he
        rw [if_neg (by rw [he]; decide), he] at h2
        rw [h2]; exact VLe.rfl_ _
      · have hq : rangeE x = true := by simpa using hq
        have hz : ¬ x.lo ≤ x.hi := by simpa using hz
        rw [if_pos hq, if_neg hz] at he
        rw [if_neg (by rw [he]; decide), he] at h2
        rw [h2]; exact VLe.rfl_ _
      · have hq : rangeE x = true := by simpa using hq
        have hz : x.lo ≤ x.hi := by simpa using hz
        rw [if_pos hq, if_pos hz] at he
        rw [if_pos he] at h2
        refine ⟨k + 1, ⟨by omega, by rw [h2, hn]⟩, by omega, ?_, rfl⟩
        rw [wrap_succ hlt hlen]
        simp
  · have hge : l.length ≤ i := by simpa using hge
    rw [h2, List.drop_eq_nil_of_le hge]
    exact VLe.rfl_ _

/-! The start. -/
def sumLo (a : Int) : List El → Int
  | [] => a
  | x :: r => sumLo (IntKind.i64.wrap (a - IntKind.i64.wrap (x.hi * x.w))) r
def sumHi (b : Int) : List El → Int
  | [] => b
  | x :: r => sumHi (IntKind.i64.wrap (b - IntKind.i64.wrap (x.lo * x.w))) r
def startE (st : Int) (l : List El) : V := .agg [.int .i64 (floorE (sumLo (IntKind.i64.wrap (1000 * st)) l) 1000), .int .i64 (IntKind.i64.wrap (0 - floorE (IntKind.i64.wrap (0 - sumHi (IntKind.i64.wrap (1000 * st)) l)) 1000))]
theorem cStart (st : Int) (o : Alt.Own) (ho : OwnLow 0 o) (l : List El) (hlen : l.length ≤ 4611686018427387904) (hnm : ∀ x ∈ l, x.name.size ≤ 4611686018427387904) :
    PureCall X 7 [.agg [.int .i64 st, .slc o (els l)]] (if (chk st l).2 = 0 then .tup [startE st l, .int .i64 0] else .tup [.agg [.int .i64 0, .int .i64 0], .int .i64 (chk st l).2]) := by
  have ho3 : OwnLow 3 o := ho.mono (by omega)
  refine pureX Tryd.func7 (by kernel_rfl) (by kernel_rfl) (by kernel_rfl) (by simp [ho]; exact els_low l) (by split <;> simp [startE]) (w_startA st o (els l) _ _ _ ⟨cCheckA st o ho l hlen hnm, fun h => ?_, fun h => ?_⟩)
  · have h : (chk st l).2 ≠ 0 := by simpa using h
    rw [if_neg h]; exact VLe.rfl_ _
  have h : (chk st l).2 = 0 := by simpa using h
  rw [if_pos h]
  refine AW_loopK (by kernel_rfl) [29, 28, 27, 6, 3, 2] (fun s : Nat × Int × Int => [.int .i64 s.1, .int .i64 l.length, .slc o (els l), .ptr 2 0, .int .i64 0, .ptr 1 0])
    (fun s => [.box [.int .i64 st, .slc o (els l)], .box [.int .i64 0, .int .i64 0], .box [.int .i64 s.2.1, .int .i64 s.2.2]]) (fun s => l.length - s.1)
    (fun s => s.1 ≤ l.length ∧ sumLo (IntKind.i64.wrap (1000 * st)) l = sumLo s.2.1 (l.drop s.1) ∧ sumHi (IntKind.i64.wrap (1000 * st)) l = sumHi s.2.2 (l.drop s.1)) (0, IntKind.i64.wrap (1000 * st), IntKind.i64.wrap (1000 * st)) ⟨Nat.zero_le _, rfl, rfl⟩ (by simp [aget]) rfl
    (fun s hs => ⟨by simp [ho3]; exact els_low' _ l, by simp [ho3]; exact els_low' _ l, rfl⟩)
    (fun s hI => w_startA1 st o (els l) s.1 l.length s.2.1 s.2.2 (l.getD s.1 default).name (l.getD s.1 default).lo (l.getD s.1 default).hi (l.getD s.1 default).w _ _ ?_)
  obtain ⟨i, a, b⟩ := s
  obtain ⟨h1, h2, h3⟩ := hI
  simp only at h1 h2 h3 ⊢
  refine ⟨fun hlt => ?_, fun hge => ?_⟩
  · have hlt : i < l.length := by simpa using hlt
    rw [drop_getD l hlt] at h2 h3
    simp only [sumLo, sumHi] at h2 h3
    refine ⟨by omega, by simpa using hlt, ?_, ?_, (i + 1, IntKind.i64.wrap (a - IntKind.i64.wrap ((l.getD i default).hi * (l.getD i default).w)), IntKind.i64.wrap (b - IntKind.i64.wrap ((l.getD i default).lo * (l.getD i default).w))), ⟨by simp only; omega, h2, h3⟩, by simp only; omega, ?_, rfl⟩
    · rw [Int.toNat_natCast, els_getD _ _ hlt]; rfl
    · rw [Int.toNat_natCast, els_getD _ _ hlt]; rfl
    · rw [wrap_succ hlt hlen]
      simp
  · have hge : l.length ≤ i := by simpa using hge
    rw [List.drop_eq_nil_of_le hge] at h2 h3
    simp only [sumLo, sumHi] at h2 h3
    rw [startE, h2, h3]
    exact VLe.rfl_ _
theorem cRStart (st : Int) (o : Alt.Own) (ho : OwnLow 0 o) (l : List El) (hlen : l.length ≤ 4611686018427387904) :
    PureCall X 9 [.agg [.int .i64 st, .slc o (els l)]] (startE st l) := by
  have ho2 : OwnLow 2 o := ho.mono (by omega)
  refine pureX Tryd.func9 (by kernel_rfl) (by kernel_rfl) (by kernel_rfl) (by simp [ho]; exact els_low l) (by simp [startE]) (w_rStartA st o (els l) 0 0 _ ?_)
  refine AW_loopK (by kernel_rfl) [5, 4, 3, 2, 1] (fun s : Nat × Int × Int => [.int .i64 s.1, .int .i64 s.2.2, .int .i64 s.2.1, .ptr 1 0, .ptr 0 0])
    (fun s => [.box [.int .i64 st, .slc o (els l)], .box [.int .i64 0, .int .i64 0]]) (fun s => l.length - s.1)
    (fun s => s.1 ≤ l.length ∧ sumLo (IntKind.i64.wrap (1000 * st)) l = sumLo s.2.1 (l.drop s.1) ∧ sumHi (IntKind.i64.wrap (1000 * st)) l = sumHi s.2.2 (l.drop s.1)) (0, IntKind.i64.wrap (1000 * st), IntKind.i64.wrap (1000 * st)) ⟨Nat.zero_le _, rfl, rfl⟩ (by simp [aget]) rfl
    (fun s hs => ⟨by simp, by simp [ho2]; exact els_low' _ l, rfl⟩)
    (fun s hI => w_rStartA1 st o (els l) s.1 s.2.1 s.2.2 (floorE s.2.1 1000) (IntKind.i64.wrap (0 - floorE (IntKind.i64.wrap (0 - s.2.2)) 1000)) (l.getD s.1 default).name (l.getD s.1 default).lo (l.getD s.1 default).hi (l.getD s.1 default).w _ _ ?_)
  obtain ⟨i, a, b⟩ := s
  obtain ⟨h1, h2, h3⟩ := hI
  simp only at h1 h2 h3 ⊢
  refine ⟨fun hlt => ?_, fun hge => ⟨cFloor _ _ (by decide), cCeil _ _ (by decide), ?_⟩⟩
  · have hlt : i < l.length := by simpa using hlt
    rw [drop_getD l hlt] at h2 h3
    simp only [sumLo, sumHi] at h2 h3
    have e1 : ((els l).getD (i : Int).toNat []).length = 4 := by rw [Int.toNat_natCast, els_getD _ _ hlt]; rfl
    have e2 : V.pin ((els l).getD (i : Int).toNat []) = V.pin [V.str (l.getD i default).name, V.int .i64 (l.getD i default).lo, V.int .i64 (l.getD i default).hi, V.int .i64 (l.getD i default).w] := by rw [Int.toNat_natCast, els_getD _ _ hlt]; rfl
    have e3 : (i : Int) < ((els l).length : Int) := by simpa using hlt
    refine ⟨by omega, e3, e1, e2, by omega, e3, e1, e2, by omega, e3, e1, e2, by omega, e3, e1, e2, (i + 1, IntKind.i64.wrap (a - IntKind.i64.wrap ((l.getD i default).hi * (l.getD i default).w)), IntKind.i64.wrap (b - IntKind.i64.wrap ((l.getD i default).lo * (l.getD i default).w))), ⟨by simp only; omega, h2, h3⟩, by simp only; omega, ?_, rfl⟩
    rw [wrap_succ hlt hlen]
    simp
  · have hge : l.length ≤ i := by simpa using hge
    rw [List.drop_eq_nil_of_le hge] at h2 h3
    simp only [sumLo, sumHi] at h2 h3
    rw [startE, h2, h3]
    exact VLe.rfl_ _
theorem cCopyA (st : Int) (o : Alt.Own) (ho : OwnLow 0 o) (l : List El) (hlen : l.length ≤ 10) : PureCall X 6 [.agg [.int .i64 st, .slc o (els l)]] (.agg [.int .i64 st, .slc .shared (els l)]) := by
  refine pureX Tryd.func6 (by kernel_rfl) (by kernel_rfl) (by kernel_rfl) (by simp [ho]; exact els_low l) (by simp; exact els_low l) (w_copyA st o (els l) _ ⟨by simp, els_len4 l, by simp; omega, by simp; omega, VLe.rfl_ _⟩)
end Go.Proofs.YtdcdjjdklhlnlaaDoor
