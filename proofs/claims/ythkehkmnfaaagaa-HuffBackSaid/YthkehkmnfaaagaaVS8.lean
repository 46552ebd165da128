/- The next symbol: both readers. -/
import Derived.Test.YthkehkmnfaaagaaVS6
import Derived.Test.YthkehkmnfaaagaaVm3
import Derived.Test.YthkehkmnfaaagaaV2B
set_option linter.unusedVariables false
set_option linter.unusedSimpArgs false
set_option linter.unusedSimpArgs false
set_option maxRecDepth 20000
namespace Go.Vit
open Go.Proofs
/-- A table that lies between two places. -/
def TabB (lo hi : Nat) (L : List Int) (σ : Mem) (r : Nat) : Prop :=
  ∃ l c s T, σ.get r = some (.rw (tabC l c L s (mostT L))) ∧ RdS 1 σ l (ic L) L.length ∧ RdS 1 σ c (ic (codes L)) L.length ∧ RdS 1 σ s (ic T) T.length ∧ Stb (lkey L) (syms L L.length) T ∧ Srt (lkey L) T ∧ (lo ≤ r ∧ r < hi) ∧ (∀ b ∈ blkOf l, lo ≤ b ∧ b < hi) ∧ (∀ b ∈ blkOf c, lo ≤ b ∧ b < hi) ∧ (∀ b ∈ blkOf s, lo ≤ b ∧ b < hi)
theorem Tab.b {lo : Nat} {L : List Int} {σ : Mem} {r : Nat} (h : Tab lo L σ r) : TabB lo σ.next L σ r := h
theorem TabB.keep {lo hi : Nat} {L : List Int} {σ σ' : Mem} {r : Nat} (h : TabB lo hi L σ r) (hg : ∀ b, lo ≤ b → b < hi → σ'.get b = σ.get b) : TabB lo hi L σ' r := by
  obtain ⟨l, c, s, T, h1, h2, h3, h4, h5, h6, h7, h8, h9, h10⟩ := h
  exact ⟨l, c, s, T, (hg r h7.1 h7.2).trans h1, h2.keep fun b hb => hg b (h8 b hb).1 (h8 b hb).2, h3.keep fun b hb => hg b (h9 b hb).1 (h9 b hb).2, h4.keep fun b hb => hg b (h10 b hb).1 (h10 b hb).2, h5, h6, h7, h8, h9, h10⟩
theorem rdBits_one {s : ByteArray} {at' : Nat} (h : ¬ 8 * s.size ≤ at') : rdBits s at' 1 = (bitAt s at', 0, at' + 1) := by
  unfold rdBits
  rw [if_neg (by omega), if_neg (by omega)]
  show (val s at' 1, (0 : Int), at' + 1) = _
  congr 1
  show val s at' 0 + bitAt s (at' + 0) * 2 ^ 0 = _
  show 0 + bitAt s (at' + 0) * 1 = _
  rw [Nat.zero_add, Nat.mul_one, Nat.add_zero]
theorem rdBits_end {s : ByteArray} {at' : Nat} (h : 8 * s.size ≤ at') : rdBits s at' 1 = (0, 3, at') := by
  unfold rdBits
  rw [if_neg (by omega), if_pos (by omega)]
theorem mostT_eq (L : List Int) : mostT L = (mostN L : Nat) := by
  unfold mostT mostN
  split <;> rfl
theorem RdS.iat {σ : Mem} {v : AV} {L : List Int} {n : Nat} (h : RdS 1 σ v (ic L) n) {i : Nat} {x : Int} (hx : L[i]? = some x) (hn : i < n) (hi : i < L.length) : ∃ b c, v = .slice b 0 n c ∧ ∀ {K : AV → Prop} (m : Nat), K (.int .i64 x) → ldW (σ.bump m) (.ptr b i) K := by
  obtain ⟨b, c, rfl, h1, _⟩ := h.pos (by omega)
  refine ⟨b, c, rfl, fun m hk => ld_rd (σ := σ.bump m) h1 (ic_get hi) ?_⟩
  rw [List.getElem?_eq_getElem hi] at hx
  injection hx with hx
  rw [hx]; exact hk
theorem huff_Next {lo hi t r at' : Nat} {L : List Int} {s : ByteArray} {σ : Mem} (hL : lens L) (ht : TabB lo hi L σ t) (hhi : hi ≤ σ.next) (hr : r < lo ∨ hi ≤ r) (hs : s.size ≤ reachBytes) (h : σ.get r = some (rdP s at')) (ha : at' ≤ 8 * s.size) :
    ACalls PG n_huff_Table_Next [.ptr t 0, .ptr r 0] σ fun v σ' => v = .tup [.int .i64 (dec L s (mostN L) 1 0 at').1, .int .i64 (dec L s (mostN L) 1 0 at').2.1] ∧ σ'.get r = some (rdP s (dec L s (mostN L) 1 0 at').2.2) ∧ Mem.Only [r] σ σ' := by
  refine ok_huff_Table_Next fun live => ?_
  unfold F_huff_Table_Next
  have hL1 := hL.1
  have hm15 : mostN L ≤ 15 := by unfold mostN; split <;> omega
  have hrl := live.lt h
  repeat (first | refine To.go ?_ | with_reducible refine And.intro (by first | omega | exact ⟨rfl, rfl⟩) ?_ | ((with_reducible apply opt); (· (first | with_reducible assumption | rfl))) | ((with_reducible apply ldrw); (· (first | with_reducible assumption | (simp (disch := omega) only [go_sem, *]; try rfl))); (· (first | with_reducible assumption | rfl))) | ((with_reducible apply ldro); (· (first | with_reducible assumption | (simp (disch := omega) only [go_sem, *]; try rfl))); (· (first | with_reducible assumption | rfl))) | ((with_reducible apply st1); (· (first | with_reducible assumption | (simp (disch := omega) only [go_sem, *]; try rfl))); (· simp); (· rfl)) | with_reducible refine ifT rfl ?_ | with_reducible refine ifF (not_not_intro rfl) ?_ | with_reducible refine ifT (by omega) ?_ | with_reducible refine ifF (by omega) ?_)
  obtain ⟨D, hD⟩ : ∃ D, dec L s (mostN L) 1 0 at' = D := ⟨_, rfl⟩
  rw [hD]
  have hdl : D.2.2 ≤ 8 * s.size := by rw [← hD]; exact dec_le _ _ _ ha
  refine loop4 (fun (k : Nat) (code start seen n : Int) σ' => ∃ j c p : Nat, n = j ∧ code = c ∧ start = (fc L (j - 1) + cN L (j - 1) : Nat) ∧ seen = (msum (cN L) j : Nat) ∧ 1 ≤ j ∧ k + j = mostN L + 1 ∧ fc L (j - 1) + cN L (j - 1) ≤ c ∧ c < 2 ^ j ∧ p ≤ 8 * s.size ∧ dec L s k j c p = D ∧ σ'.get r = some (rdP s p) ∧ Mem.Only [r] σ σ') (fun k => k) (mostN L) ⟨1, 0, at', rfl, rfl, by rw [cN_zero]; rfl, by rw [msum, msum, cN_zero]; rfl, by omega, rfl, by rw [cN_zero]; exact Nat.le_refl _, by omega, ha, hD, h, ⟨by simp only [Mem.next_bump]; omega, fun _ _ _ => rfl⟩⟩ ?_
  rintro k _ _ _ _ σ1 ⟨j, c, p, rfl, rfl, rfl, rfl, hj, hkj, hle, hc, hp, hd, e1, o1⟩
  unfold F_huff_Table_Next_l1
  have n1 := o1.next
  have htk : ∀ σ', Mem.Only [r] σ σ' → TabB lo hi L σ' t := fun σ' o => ht.keep fun b h1 h2 => o.get b (by omega) (by simp; omega)
  obtain ⟨l, cc, sy, T, g1, _, _, rT, sT, oT, _⟩ := htk σ1 o1
  have hmt := mostT_eq L
  refine To.go ?_
  refine To.go ?_
  refine ldrw (l := tabC l cc L sy (mostT L)) (v := .int .i64 (mostT L)) g1 rfl ?_
  refine To.go ?_
  rw [hmt]
  refine ifD (fun hlt => ?_) (fun hge => ?_)
  · refine callW_of (bits_Reader_Bits (σ := σ1.bump 13) hs e1 hp) ?_
    rintro _ σ2 ⟨rfl, e2, o2⟩
    have n2 := o2.next
    simp only [Mem.next_bump] at n2
    have o12 : Mem.Only [r] σ σ2 := ⟨by omega, fun b h1 h2 => (o2.get b (by simp only [Mem.next_bump]; omega) h2).trans (o1.get b h1 h2)⟩
    obtain ⟨k, rfl⟩ : ∃ k', k = k' + 1 := ⟨k - 1, by omega⟩
    unfold dec at hd
    by_cases hend : 8 * s.size ≤ p
    · rw [rdBits_end hend] at e2 ⊢
      rw [if_pos hend] at hd
      repeat (first | refine To.go ?_ | with_reducible refine And.intro (by first | omega | exact ⟨rfl, rfl⟩) ?_ | ((with_reducible apply opt); (· (first | with_reducible assumption | rfl))) | ((with_reducible apply ldrw); (· (first | with_reducible assumption | (simp (disch := omega) only [go_sem, *]; try rfl))); (· (first | with_reducible assumption | rfl))) | ((with_reducible apply ldro); (· (first | with_reducible assumption | (simp (disch := omega) only [go_sem, *]; try rfl))); (· (first | with_reducible assumption | rfl))) | ((with_reducible apply st1); (· (first | with_reducible assumption | (simp (disch := omega) only [go_sem, *]; try rfl))); (· simp); (· rfl)) | with_reducible refine ifT rfl ?_ | with_reducible refine ifF (not_not_intro rfl) ?_ | with_reducible refine ifT (by omega) ?_ | with_reducible refine ifF (by omega) ?_)
      subst hd
      exact ⟨rfl, e2, o12.bump _⟩
    rw [rdBits_one hend] at e2 ⊢
    rw [if_neg hend] at hd
    obtain ⟨u, hu⟩ : ∃ u, bitAt s p = u := ⟨_, rfl⟩
    have hul := bitAt_lt s p
    rw [hu] at hul hd ⊢
    dsimp only at e2 ⊢
    repeat (first | refine To.go ?_ | with_reducible refine And.intro (by first | omega | exact ⟨rfl, rfl⟩) ?_ | ((with_reducible apply opt); (· (first | with_reducible assumption | rfl))) | ((with_reducible apply ldrw); (· (first | with_reducible assumption | (simp (disch := omega) only [go_sem, *]; try rfl))); (· (first | with_reducible assumption | rfl))) | ((with_reducible apply ldro); (· (first | with_reducible assumption | (simp (disch := omega) only [go_sem, *]; try rfl))); (· (first | with_reducible assumption | rfl))) | ((with_reducible apply st1); (· (first | with_reducible assumption | (simp (disch := omega) only [go_sem, *]; try rfl))); (· simp); (· rfl)) | with_reducible refine ifT rfl ?_ | with_reducible refine ifF (not_not_intro rfl) ?_ | with_reducible refine ifT (by omega) ?_ | with_reducible refine ifF (by omega) ?_)
    have hp16 : 2 ^ j ≤ 2 ^ 15 := pow_le (by omega)
    have hfb := fc_bound hL1 (n := j) (by omega)
    have hcl := cN_le L j
    have hor : bitsOp .or .i64 ((c : Int) * 2) (u : Int) = ((2 * c + u : Nat) : Int) := by
      rw [show ((c : Int) * 2) = ((c * 2 : Nat) : Int) from by omega, bitsO (by omega) (by omega)]
      have := or_shift (a := u) (b := c) (n := 1) (by omega)
      rw [Nat.pow_one, Nat.or_comm] at this
      rw [Int.toNat_natCast, Int.toNat_natCast, this]; omega
    have hfc : fc L j = 2 * (fc L (j - 1) + cN L (j - 1)) := by
      obtain ⟨m, rfl⟩ : ∃ m, j = m + 1 := ⟨j - 1, by omega⟩
      rw [fc]; simp only [Nat.add_sub_cancel]; omega
    have hms : msum (cN L) (j + 1) = msum (cN L) j + cN L j := rfl
    have hmj := (sums hL.2).1
    have hmm := msum_le (c := cN L) (k := j) (m := 16) (by omega)
    have hml := many_le L
    refine And.intro (by omega) ?_
    rw [hor]
    refine To.go ?_
    obtain ⟨x, hx⟩ : ∃ x, 2 * c + u = x := ⟨_, rfl⟩
    rw [hx] at hd ⊢
    refine iW_of (by omega) ?_
    refine iW_of (by omega) ?_
    obtain ⟨l, cc, sy, T, g1, _, _, rT, sT, oT, _⟩ := htk σ2 o12
    have gm : (tabC l cc L sy (mostT L))[2 + j]? = some (.int .i64 (cN L j : Nat)) := by
      have := cA_at (L := L) (k := j) (by omega)
      unfold tabC
      rw [List.append_assoc, List.getElem?_append_right (by simp), List.getElem?_append_left (by rw [cA_len]; simp; omega)]
      rw [show 2 + j - [l, cc].length = j from by simp]
      exact this
    refine To.go ?_
    refine To.go ?_
    refine And.intro (by omega) ?_
    rw [show 2 + j * 1 = 2 + j from by omega]
    refine To.go ?_
    refine ldrw g1 gm ?_
    refine To.go ?_
    refine ifD (fun hk => ?_) (fun hk => ?_)
    · obtain ⟨i, hi, hin, hik, hf⟩ := fnd_code (L := L) (n := j) (c := x) (by omega) (by omega) (by omega)
      rw [hf] at hd
      dsimp only at hd
      have hT : T[msum (cN L) j + (x - fc L j)]? = some (i : Int) := by
        obtain ⟨m, rfl⟩ : ∃ m, j = m + 1 := ⟨j - 1, by omega⟩
        rw [← syms_less hL.2 T sT m]
        refine oT.at (n := ((m + 1 : Nat) : Int)) ?_
        rw [sT.2, ← hik]
        exact (syms_key (L := L) (m + 1) (by omega) (Nat.le_refl _)).2 i hi hin
      have hTl := (List.getElem?_eq_some_iff.1 hT).1
      refine To.go ?_
      refine ldrw (v := sy) g1 rfl ?_
      refine iW_of (by omega) ?_
      rw [show ((msum (cN L) j : Nat) : Int) + ((x : Int) - ((fc L (j - 1) + cN L (j - 1) : Nat) : Int) * 2) = ((msum (cN L) j + (x - fc L j) : Nat) : Int) from by omega]
      obtain ⟨bs, cs, rfl, hget⟩ := rT.iat hT hTl hTl
      refine To.go ?_
      refine And.intro hTl ?_
      refine To.go ?_
      refine hget _ ?_
      refine To.go ?_
      subst hd
      exact ⟨rfl, e2, o12.bump _⟩
    · have hf := fnd_no (L := L) (n := j) (c := x) (by omega) (by omega)
      rw [hf] at hd
      dsimp only at hd
      refine To.go ?_
      refine To.go ?_
      refine And.intro (by omega) ?_
      rw [show 2 + j * 1 = 2 + j from by omega]
      refine To.go ?_
      refine ldrw g1 gm ?_
      refine To.go ?_
      refine iW_of (by omega) ?_
      refine To.go ?_
      refine To.go ?_
      refine And.intro (by omega) ?_
      rw [show 2 + j * 1 = 2 + j from by omega]
      refine To.go ?_
      refine ldrw g1 gm ?_
      refine To.go ?_
      refine iW_of (by omega) ?_
      refine iW_of (by omega) ?_
      have hpw : 2 ^ (j + 1) = 2 * 2 ^ j := by rw [Nat.pow_succ]; omega
      refine again ⟨k, ⟨j + 1, x, p + 1, by omega, rfl, ?_, by omega, by omega, by omega, ?_, by omega, by omega, hd, e2, o12.bump _⟩, by omega⟩
      · rw [Nat.add_sub_cancel, hfc]; omega
      · rw [Nat.add_sub_cancel]; omega
  · obtain rfl : k = 0 := by omega
    unfold dec at hd
    subst hd
    exact ⟨rfl, e1, o1.bump _⟩
end Go.Vit
