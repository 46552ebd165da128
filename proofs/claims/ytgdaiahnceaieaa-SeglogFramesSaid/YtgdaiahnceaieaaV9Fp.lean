/- Frames: what lies behind one another, and what is read of a beginning of it. -/
import Derived.Test.YtgdaiahnceaieaaVm2
import Derived.Test.YtgdaiahnceaieaaVm3
set_option linter.unusedVariables false
set_option linter.unusedSimpArgs false
namespace Go.Vit
theorem byteAt_app (a b : ByteArray) (i : Nat) : byteAt (a ++ b) i = if i < a.size then byteAt a i else byteAt b (i - a.size) := by
  have e : bytesL (a ++ b) = bytesL a ++ bytesL b := by simp [bytesL, ByteArray.data_append]
  have el : (bytesL a).length = a.size := by simp [bytesL]
  unfold byteAt
  rw [e]
  split
  · rename_i h; rw [List.getElem?_append_left (by omega)]
  · rename_i h; rw [List.getElem?_append_right (by omega), el]
theorem byteAt_ext (s : ByteArray) {a b i : Nat} (h : i < b - a) (hb : b ≤ s.size) : byteAt (s.extract a b) i = byteAt s (a + i) := by
  have e : bytesL (s.extract a b) = ((bytesL s).drop a).take (b - a) := by simp [bytesL, ByteArray.data_extract, Array.toList_extract, List.extract_eq_take_drop]
  unfold byteAt
  rw [e, List.getElem?_take, if_pos h, List.getElem?_drop]
def be4 (n : Nat) : ByteArray := ⟨[UInt8.ofNat (n / 16777216), UInt8.ofNat (n / 65536), UInt8.ofNat (n / 256), UInt8.ofNat n].toArray⟩
def num4 (s : ByteArray) : Nat := 16777216 * byteAt s 0 + 65536 * byteAt s 1 + 256 * byteAt s 2 + byteAt s 3
theorem be4_size (n : Nat) : (be4 n).size = 4 := rfl
theorem num4_be4 {n : Nat} (h : n < 4294967296) : num4 (be4 n) = n := by
  unfold num4 be4
  rw [byteAt_mk, byteAt_mk, byteAt_mk, byteAt_mk]
  show 16777216 * (UInt8.ofNat (n / 16777216)).toNat + 65536 * (UInt8.ofNat (n / 65536)).toNat + 256 * (UInt8.ofNat (n / 256)).toNat + (UInt8.ofNat n).toNat = n
  simp only [UInt8.toNat_ofNat', Nat.reducePow]
  omega
theorem num4_of {s t : ByteArray} (h : ∀ i, i < 4 → byteAt s i = byteAt t i) : num4 s = num4 t := by
  unfold num4
  rw [h 0 (by decide), h 1 (by decide), h 2 (by decide), h 3 (by decide)]
section
variable (crc : ByteArray → Nat)
def frame (s : ByteArray) : ByteArray := be4 s.size ++ be4 (crc s) ++ s
theorem frame_size (s : ByteArray) : (frame crc s).size = 8 + s.size := by
  unfold frame
  rw [ByteArray.size_append, ByteArray.size_append, be4_size, be4_size]
def frs : List ByteArray → ByteArray
  | [] => ⟨#[]⟩
  | s :: l => frame crc s ++ frs l
theorem frs_append (a b : List ByteArray) : frs crc (a ++ b) = frs crc a ++ frs crc b := by
  induction a with
  | nil => exact ByteArray.empty_append.symm
  | cons s l ih => rw [List.cons_append, frs, frs, ih, ByteArray.append_assoc]
theorem frs_one (s : ByteArray) : frs crc [s] = frame crc s := ByteArray.append_empty
def fsz (l : List ByteArray) : Nat := (l.map fun s => 8 + s.size).sum
theorem frs_size : ∀ l : List ByteArray, (frs crc l).size = fsz l
  | [] => rfl
  | s :: l => by
    rw [frs, ByteArray.size_append, frame_size, frs_size l]
    unfold fsz
    rw [List.map_cons, List.sum_cons]
theorem fsz_append (a b : List ByteArray) : fsz (a ++ b) = fsz a + fsz b := by unfold fsz; rw [List.map_append, List.sum_append]
def nxtB (s : ByteArray) : Bool := decide (8 ≤ s.size ∧ num4 s ≠ 0 ∧ num4 s ≤ 1000000 ∧ num4 s + 8 ≤ s.size) && decide (num4 (s.extract 4 s.size) = crc (s.extract 8 (8 + num4 s)))
def nxtR (s : ByteArray) : ByteArray := s.extract 8 (8 + num4 s)
def scanF : Nat → ByteArray → List ByteArray × ByteArray
  | 0, s => ([], s)
  | k + 1, s => match nxtB crc s with
    | true => (nxtR s :: (scanF k (s.extract (8 + num4 s) s.size)).1, (scanF k (s.extract (8 + num4 s) s.size)).2)
    | false => ([], s)
theorem nxt_size {s : ByteArray} (h : nxtB crc s = true) : 8 ≤ s.size ∧ (s.extract (8 + num4 s) s.size).size + 9 ≤ s.size ∧ (nxtR s).size = num4 s ∧ num4 s ≤ 1000000 ∧ 1 ≤ num4 s := by
  unfold nxtB at h
  rw [Bool.and_eq_true, decide_eq_true_eq] at h
  have h1 := h.1
  unfold nxtR
  rw [ByteArray.size_extract, ByteArray.size_extract]
  omega
theorem scanF_more : ∀ (k : Nat) (s : ByteArray), s.size ≤ k → ∀ j, k ≤ j → scanF crc j s = scanF crc k s
  | 0, s, h, j, _ => by
    have : nxtB crc s = false := by
      cases hn : nxtB crc s with
      | false => rfl
      | true => have := (nxt_size crc hn).1; omega
    cases j with
    | zero => rfl
    | succ j => rw [scanF, scanF, this]
  | k + 1, s, h, j, hj => by
    obtain ⟨j, rfl⟩ : ∃ i, j = i + 1 := ⟨j - 1, by omega⟩
    rw [scanF, scanF]
    cases hn : nxtB crc s with
    | false => rfl
    | true =>
      have := (nxt_size crc hn).2.1
      rw [scanF_more k _ (by omega) j (by omega)]
def scan (s : ByteArray) : List ByteArray × ByteArray := scanF crc s.size s
theorem scan_no {s : ByteArray} (h : nxtB crc s = false) : scan crc s = ([], s) := by
  unfold scan
  cases s.size with
  | zero => rfl
  | succ k => rw [scanF, h]
theorem scan_yes {s : ByteArray} (h : nxtB crc s = true) : scan crc s = (nxtR s :: (scan crc (s.extract (8 + num4 s) s.size)).1, (scan crc (s.extract (8 + num4 s) s.size)).2) := by
  have h1 := nxt_size crc h
  unfold scan
  obtain ⟨k, hk⟩ : ∃ k, s.size = k + 1 := ⟨s.size - 1, by omega⟩
  rw [show scanF crc s.size s = scanF crc (k + 1) s from by rw [hk], scanF, h, scanF_more crc (s.extract (8 + num4 s) s.size).size _ (Nat.le_refl _) k (by omega)]
def goodR (s : ByteArray) : Prop := 1 ≤ s.size ∧ s.size ≤ 1000000
theorem scan_cut (hc : ∀ s, crc s < 4294967296) : ∀ (l : List ByteArray) (n : Nat), (∀ s ∈ l, goodR s) → n ≤ fsz l →
    ∃ k, k ≤ l.length ∧ fsz (l.take k) ≤ n ∧ (k < l.length → n < fsz (l.take (k + 1))) ∧ (scan crc ((frs crc l).extract 0 n)).1 = l.take k ∧ (scan crc ((frs crc l).extract 0 n)).2.size + fsz (l.take k) = n
  | [], n, _, hn => by
    have hn0 : n = 0 := by unfold fsz at hn; simpa using hn
    subst hn0
    have e : nxtB crc ((frs crc []).extract 0 0) = false := by
      cases hx : nxtB crc ((frs crc []).extract 0 0) with
      | false => rfl
      | true =>
        have := (nxt_size crc hx).1
        rw [ByteArray.size_extract] at this; omega
    refine ⟨0, Nat.le_refl _, Nat.le_refl _, fun h => by simp at h, ?_, ?_⟩ <;> rw [scan_no crc e]
    · rfl
    · rfl
  | s :: l, n, hg, hn => by
    have hs := hg s (by simp)
    unfold goodR at hs
    have hz : fsz (s :: l) = 8 + s.size + fsz l := by unfold fsz; rw [List.map_cons, List.sum_cons]
    have hfz : (frs crc (s :: l)).size = fsz (s :: l) := frs_size crc _
    obtain ⟨t, ht⟩ : ∃ t, (frs crc (s :: l)).extract 0 n = t := ⟨_, rfl⟩
    have hts : t.size = n := by rw [← ht, ByteArray.size_extract, hfz]; omega
    have hfr : ∀ i, i < n → byteAt t i = byteAt (frame crc s ++ frs crc l) i := fun i hi => by
      rw [← ht, byteAt_ext _ (by omega) (by omega), Nat.zero_add]; rfl
    have hA : ∀ i, i < 4 → byteAt (frame crc s ++ frs crc l) i = byteAt (be4 s.size) i := fun i hi => by
      rw [byteAt_app, if_pos (by rw [frame_size]; omega)]
      unfold frame
      rw [byteAt_app, if_pos (by rw [ByteArray.size_append, be4_size, be4_size]; omega), byteAt_app, if_pos (by rw [be4_size]; omega)]
    have hB : ∀ i, i < 4 → byteAt (frame crc s ++ frs crc l) (4 + i) = byteAt (be4 (crc s)) i := fun i hi => by
      rw [byteAt_app, if_pos (by rw [frame_size]; omega)]
      unfold frame
      rw [byteAt_app, if_pos (by rw [ByteArray.size_append, be4_size, be4_size]; omega), byteAt_app, if_neg (by rw [be4_size]; omega), be4_size, show 4 + i - 4 = i from by omega]
    have hC : ∀ i, i < s.size → byteAt (frame crc s ++ frs crc l) (8 + i) = byteAt s i := fun i hi => by
      rw [byteAt_app, if_pos (by rw [frame_size]; omega)]
      unfold frame
      rw [byteAt_app, if_neg (by rw [ByteArray.size_append, be4_size, be4_size]; omega), ByteArray.size_append, be4_size, be4_size, show 8 + i - (4 + 4) = i from by omega]
    have hD : ∀ i, byteAt (frame crc s ++ frs crc l) (8 + s.size + i) = byteAt (frs crc l) i := fun i => by
      rw [byteAt_app, if_neg (by rw [frame_size]; omega), frame_size, show 8 + s.size + i - (8 + s.size) = i from by omega]
    have hnum : 4 ≤ n → num4 t = s.size := fun h4 => by
      rw [num4_of (t := be4 s.size) (fun i hi => by rw [hfr i (by omega), hA i hi]), num4_be4 (by omega)]
    rw [ht]
    by_cases hlt : n < 8 + s.size
    · have e : nxtB crc t = false := by
        unfold nxtB
        rw [Bool.and_eq_false_iff]
        left
        rw [decide_eq_false_iff_not, hts]
        rintro ⟨h1, h2, h3, h4⟩
        rw [hnum (by omega)] at h4
        omega
      refine ⟨0, Nat.zero_le _, Nat.zero_le _, fun _ => ?_, ?_, ?_⟩
      · rw [List.take_succ_cons, List.take_zero]
        unfold fsz
        simpa using hlt
      · rw [scan_no crc e]; rfl
      · rw [scan_no crc e]; exact hts
    · have hn4 := hnum (by omega)
      have hr : nxtR t = s := by
        unfold nxtR
        rw [hn4]
        refine bytes_ext (by rw [ByteArray.size_extract]; omega) fun i hi => ?_
        rw [ByteArray.size_extract] at hi
        rw [byteAt_ext _ (by omega) (by omega), hfr _ (by omega), hC i (by omega)]
      have e : nxtB crc t = true := by
        unfold nxtB
        rw [Bool.and_eq_true, decide_eq_true_eq, decide_eq_true_eq]
        refine ⟨by rw [hn4, hts]; omega, ?_⟩
        have hr' : t.extract 8 (8 + num4 t) = s := hr
        rw [hr', num4_of (t := be4 (crc s)) (fun i hi => by rw [byteAt_ext _ (by omega) (by omega), hfr _ (by omega), hB i hi]), num4_be4 (hc s)]
      have hrest : t.extract (8 + num4 t) t.size = (frs crc l).extract 0 (n - (8 + s.size)) := by
        have hfl := frs_size crc l
        refine bytes_ext (by rw [ByteArray.size_extract, ByteArray.size_extract, hn4, hts]; omega) fun i hi => ?_
        rw [ByteArray.size_extract, hn4, hts] at hi
        rw [byteAt_ext _ (by rw [hn4]; omega) (by omega), hn4, hfr _ (by omega), hD i, byteAt_ext _ (by omega) (by omega), Nat.zero_add]
      obtain ⟨k, hk, h1, h2, h3, h4⟩ := scan_cut hc l (n - (8 + s.size)) (fun x hx => hg x (by simp [hx])) (by omega)
      have hzk : ∀ j, fsz ((s :: l).take (j + 1)) = 8 + s.size + fsz (l.take j) := fun j => by
        rw [List.take_succ_cons]; unfold fsz; rw [List.map_cons, List.sum_cons]
      refine ⟨k + 1, by rw [List.length_cons]; omega, by rw [hzk]; omega, fun hlt' => ?_, ?_, ?_⟩
      · rw [hzk]
        have := h2 (by rw [List.length_cons] at hlt'; omega)
        omega
      · rw [scan_yes crc e, hr, hrest, h3, List.take_succ_cons]
      · rw [scan_yes crc e, hrest, hzk]
        dsimp only
        omega
end
end Go.Vit
