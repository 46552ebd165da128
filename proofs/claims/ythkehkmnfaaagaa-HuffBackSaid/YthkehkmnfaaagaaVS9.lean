/- The document's table; the law HuffReads. -/
import Derived.Test.YthkehkmnfaaagaaVS8
import Derived.Test.YthkehkmnfaaagaaVS7
set_option linter.unusedVariables false
set_option linter.unusedSimpArgs false
set_option linter.unusedSimpArgs false
set_option maxRecDepth 20000
namespace Go.Vit
open Go.Proofs
def TabR (lo hi : Nat) (L : List Int) (σ : Mem) (r : Nat) : Prop :=
  ∃ l c, σ.get r = some (.rw [l, c]) ∧ RdS 1 σ l (ic L) L.length ∧ RdS 1 σ c (ic (codes L)) L.length ∧ (lo ≤ r ∧ r < hi) ∧ (∀ b ∈ blkOf l, lo ≤ b ∧ b < hi) ∧ (∀ b ∈ blkOf c, lo ≤ b ∧ b < hi)
theorem TabR.keep {lo hi : Nat} {L : List Int} {σ σ' : Mem} {r : Nat} (h : TabR lo hi L σ r) (hg : ∀ b, lo ≤ b → b < hi → σ'.get b = σ.get b) : TabR lo hi L σ' r := by
  obtain ⟨l, c, h1, h2, h3, h7, h8, h9⟩ := h
  exact ⟨l, c, (hg r h7.1 h7.2).trans h1, h2.keep fun b hb => hg b (h8 b hb).1 (h8 b hb).2, h3.keep fun b hb => hg b (h9 b hb).1 (h9 b hb).2, h7, h8, h9⟩
def MakeRR (L : List Int) (σ σ' : Mem) (v : AV) : Prop :=
  ∃ p, v = .tup [p, .int .i64 (chk L)] ∧ (chk L ≠ 0 → p = .nilp) ∧ (chk L = 0 → lens L ∧ ∃ r, p = .ptr r 0 ∧ TabR σ.next σ'.next L σ' r) ∧ σ.Same σ'
theorem ref02_Make {a : AV} {L : List Int} {σ : Mem} (ha : RdS 1 σ a (ic L) L.length) (hl : L.length ≤ 2 ^ 44) : ACalls PG n_ref02_Make [a] σ fun v σ' => MakeRR L σ σ' v := by
  refine ok_ref02_Make fun live => ?_
  unfold F_ref02_Make
  have hla := ha.lt live
  refine callW_of (ref02_Codes (σ := σ.bump 9) (ha.keep fun _ _ => rfl) (by omega)) ?_
  rintro _ σ1 ⟨c, rfl, c1, c2, s1⟩
  have n1 := s1.next
  simp only [Mem.next_bump] at n1 c2
  replace s1 := s1.ob
  by_cases hc : chk L = 0
  · obtain ⟨hL, cb, rfl, gc, lc, lc'⟩ := c2 hc
    have hL1 := hL.1
    rw [hc]
    repeat (first | refine To.go ?_ | with_reducible refine And.intro (by first | omega | exact ⟨rfl, rfl⟩) ?_ | ((with_reducible apply opt); (· (first | with_reducible assumption | rfl))) | ((with_reducible apply ldrw); (· (first | with_reducible assumption | (simp (disch := omega) only [go_sem, *]; try rfl))); (· (first | with_reducible assumption | rfl))) | ((with_reducible apply ldro); (· (first | with_reducible assumption | (simp (disch := omega) only [go_sem, *]; try rfl))); (· (first | with_reducible assumption | rfl))) | ((with_reducible apply st1); (· (first | with_reducible assumption | (simp (disch := omega) only [go_sem, *]; try rfl))); (· simp); (· rfl)) | with_reducible refine ifT rfl ?_ | with_reducible refine ifF (not_not_intro rfl) ?_ | with_reducible refine ifT (by omega) ?_ | with_reducible refine ifF (by omega) ?_)
    have ha1 := ha.same s1 hla
    refine OwnS.append (σ := σ1.bump 11) (n := 0) (m := L.length) (cs := []) (c := ic L) (.nil 1 _) (fun K hK => src_rd (σ := σ1.bump 11) (ha1.keep fun _ _ => rfl) K hK) (fun h => by rw [List.length_eq_zero_iff.1 h]; rfl) (by rw [ic_len, Nat.mul_one]) (ic_one _) rfl (by omega) (by simp [blkOf]) ?_
    intro v σ2 own n2 k2 b2
    simp only [Mem.next_bump] at n2
    have hv : ∀ b ∈ blkOf v, b = σ1.next + 5 := fun b hb => by
      rcases b2 b hb with h | h
      · simp [blkOf] at h
      · exact h
    rw [List.nil_append, Nat.zero_add] at own
    have ov := own.rd.one
    refine cellOkW_one ov ?_
    refine cellOkW_one rfl ?_
    rw [one_cells ov, show (AV.slice cb 0 L.length (Cap.ex L.length)).cells = [AV.slice cb 0 L.length (Cap.ex L.length)] from rfl, show setAt (setAt [AV.nils, AV.nils] 0 [v]) 1 [AV.slice cb 0 L.length (Cap.ex L.length)] = [v, AV.slice cb 0 L.length (Cap.ex L.length)] from rfl]
    refine boxW_agg (by simp [ov]; rfl) ?_
    refine To.go ?_
    refine ⟨_, by rw [hc], fun h => absurd hc h, fun _ => ⟨hL, σ1.next + 8, rfl, v, _, gS', own.rd.keep fun b hb => ?_, .inr ⟨cb, _, rfl, ⟨.rw (ic (codes L)), ?_, rfl⟩, by rw [ic_len, codes_len, Nat.mul_one]⟩, ?_, fun b hb => ?_, fun b hb => ?_⟩, ?_⟩
    · have := hv b hb
      rw [Mem.get_put_ne _ (by omega)]
    · rw [Mem.get_put_ne _ (by omega), k2 cb (by simp [blkOf]) (by omega)]; exact gc
    · simp only [Mem.next_put]; omega
    · have := hv b hb
      simp only [Mem.next_put]; omega
    · simp only [blkOf, List.mem_singleton] at hb
      simp only [Mem.next_put]; omega
    · refine ⟨by simp only [Mem.next_put]; omega, fun b hb => ?_⟩
      rw [Mem.get_put_ne _ (by omega), k2 b (by simp [blkOf]) (by omega)]
      exact s1.get b hb
  · repeat (first | refine To.go ?_ | with_reducible refine And.intro (by first | omega | exact ⟨rfl, rfl⟩) ?_ | ((with_reducible apply opt); (· (first | with_reducible assumption | rfl))) | ((with_reducible apply ldrw); (· (first | with_reducible assumption | (simp (disch := omega) only [go_sem, *]; try rfl))); (· (first | with_reducible assumption | rfl))) | ((with_reducible apply ldro); (· (first | with_reducible assumption | (simp (disch := omega) only [go_sem, *]; try rfl))); (· (first | with_reducible assumption | rfl))) | ((with_reducible apply st1); (· (first | with_reducible assumption | (simp (disch := omega) only [go_sem, *]; try rfl))); (· simp); (· rfl)) | with_reducible refine ifT rfl ?_ | with_reducible refine ifF (not_not_intro rfl) ?_ | with_reducible refine ifT (by omega) ?_ | with_reducible refine ifF (by omega) ?_)
    exact ⟨_, rfl, fun _ => rfl, fun h => absurd h hc, s1.bump _⟩
theorem ref02_Next {lo hi t r at' : Nat} {L : List Int} {s : ByteArray} {σ : Mem} (hc : chk L = 0) (ht : TabR lo hi L σ t) (hhi : hi ≤ σ.next) (hr : r < lo ∨ hi ≤ r) (hs : s.size ≤ reachBytes) (h : σ.get r = some (rdR s at')) (ha : at' ≤ 8 * s.size) :
    ACalls PG n_ref02_Table_Next [.ptr t 0, .ptr r 0] σ fun v σ' => v = .tup [.int .i64 (dec L s (mostN L) 1 0 at').1, .int .i64 (dec L s (mostN L) 1 0 at').2.1] ∧ σ'.get r = some (rdR s (dec L s (mostN L) 1 0 at').2.2) ∧ Mem.Only [r] σ σ' := by
  refine ok_ref02_Table_Next fun live => ?_
  unfold F_ref02_Table_Next
  have hL := chk_zero hc
  have hL1 := hL.1
  have hm15 : mostN L ≤ 15 := by unfold mostN; split <;> omega
  have hrl := live.lt h
  obtain ⟨D, hD⟩ : ∃ D, dec L s (mostN L) 1 0 at' = D := ⟨_, rfl⟩
  rw [hD]
  have hdl : D.2.2 ≤ 8 * s.size := by rw [← hD]; exact dec_le _ _ _ ha
  have htk : ∀ σ', Mem.Only [r] σ σ' → TabR lo hi L σ' t := fun σ' o => ht.keep fun b h1 h2 => o.get b (by omega) (by simp; omega)
  obtain ⟨l, cc, g1, rl, rc, _, bl, bc⟩ := ht
  refine To.go ?_
  refine ldrw (v := l) g1 rfl ?_
  refine callW_of (ref02_sum (σ := σ.bump 14) (rl.keep fun _ _ => rfl) hL) ?_
  rintro _ σ1 ⟨rfl, s1⟩
  have n1 := s1.next
  simp only [Mem.next_bump] at n1
  replace s1 := s1.ob
  have o1 : Mem.Only [r] σ σ1 := s1.only _
  have e1 : σ1.get r = some (rdR s at') := (s1.get r hrl).trans h
  clear g1 rl rc bl bc
  have hlg := longest_eq hc
  have main : ∀ σ2, Mem.Only [r] σ σ2 → σ2.get r = some (rdR s at') → F_ref02_Table_Next_j2 (.ptr t 0) (.ptr r 0) (fun v σ' => v = .tup [.int .i64 D.1, .int .i64 D.2.1] ∧ σ'.get r = some (rdR s D.2.2) ∧ Mem.Only [r] σ σ') (mostN L : Nat) σ2 := by
    intro σ2 o2 e2
    unfold F_ref02_Table_Next_j2
    refine loop2 (fun (k : Nat) (code n : Int) σ' => ∃ j c p : Nat, n = j ∧ code = c ∧ 1 ≤ j ∧ k + j = mostN L + 1 ∧ c < 2 ^ j ∧ p ≤ 8 * s.size ∧ dec L s k j c p = D ∧ σ'.get r = some (rdR s p) ∧ Mem.Only [r] σ σ') (fun k => k) (mostN L) ⟨1, 0, at', rfl, rfl, by omega, rfl, by omega, ha, hD, e2, o2.bump _⟩ ?_
    clear o2 e2 o1 e1
    rintro k _ _ σ3 ⟨j, c, p, rfl, rfl, hj, hkj, hc, hp, hd, e3, o3⟩
    unfold F_ref02_Table_Next_l1
    have n3 := o3.next
    refine ifD (fun hlt => ?_) (fun hge => ?_)
    · refine callW_of (ref01_Reader_Bits (σ := σ3.bump 10) hs e3 hp) ?_
      rintro _ σ4 ⟨rfl, e4, o4⟩
      have n4 := o4.next
      simp only [Mem.next_bump] at n4
      have o34 : Mem.Only [r] σ σ4 := ⟨by omega, fun b h1 h2 => (o4.get b (by simp only [Mem.next_bump]; omega) h2).trans (o3.get b h1 h2)⟩
      obtain ⟨k, rfl⟩ : ∃ k', k = k' + 1 := ⟨k - 1, by omega⟩
      unfold dec at hd
      by_cases hend : 8 * s.size ≤ p
      · rw [rdBits_end hend] at e4 ⊢
        rw [if_pos hend] at hd
        repeat (first | refine To.go ?_ | with_reducible refine And.intro (by first | omega | exact ⟨rfl, rfl⟩) ?_ | ((with_reducible apply opt); (· (first | with_reducible assumption | rfl))) | ((with_reducible apply ldrw); (· (first | with_reducible assumption | (simp (disch := omega) only [go_sem, *]; try rfl))); (· (first | with_reducible assumption | rfl))) | ((with_reducible apply ldro); (· (first | with_reducible assumption | (simp (disch := omega) only [go_sem, *]; try rfl))); (· (first | with_reducible assumption | rfl))) | ((with_reducible apply st1); (· (first | with_reducible assumption | (simp (disch := omega) only [go_sem, *]; try rfl))); (· simp); (· rfl)) | with_reducible refine ifT rfl ?_ | with_reducible refine ifF (not_not_intro rfl) ?_ | with_reducible refine ifT (by omega) ?_ | with_reducible refine ifF (by omega) ?_)
        subst hd
        exact ⟨rfl, e4, o34.bump _⟩
      rw [rdBits_one hend] at e4 ⊢
      rw [if_neg hend] at hd
      obtain ⟨u, hu⟩ : ∃ u, bitAt s p = u := ⟨_, rfl⟩
      have hul := bitAt_lt s p
      rw [hu] at hul hd ⊢
      dsimp only at e4 ⊢
      have hp16 : 2 ^ j ≤ 2 ^ 15 := pow_le (by omega)
      have hpw : 2 ^ (j + 1) = 2 * 2 ^ j := by rw [Nat.pow_succ]; omega
      repeat (first | refine To.go ?_ | with_reducible refine And.intro (by first | omega | exact ⟨rfl, rfl⟩) ?_ | ((with_reducible apply opt); (· (first | with_reducible assumption | rfl))) | ((with_reducible apply ldrw); (· (first | with_reducible assumption | (simp (disch := omega) only [go_sem, *]; try rfl))); (· (first | with_reducible assumption | rfl))) | ((with_reducible apply ldro); (· (first | with_reducible assumption | (simp (disch := omega) only [go_sem, *]; try rfl))); (· (first | with_reducible assumption | rfl))) | ((with_reducible apply st1); (· (first | with_reducible assumption | (simp (disch := omega) only [go_sem, *]; try rfl))); (· simp); (· rfl)) | with_reducible refine ifT rfl ?_ | with_reducible refine ifF (not_not_intro rfl) ?_ | with_reducible refine ifT (by omega) ?_ | with_reducible refine ifF (by omega) ?_)
      obtain ⟨x, hx⟩ : ∃ x, 2 * c + u = x := ⟨_, rfl⟩
      rw [hx] at hd
      rw [show (2 * (c : Int) + u) = (x : Nat) from by omega]
      refine loop1 (fun (i : Nat) (y : Int) σ' => y = i ∧ i ≤ L.length ∧ (∀ m < i, ¬ (L.getD m 0 = j ∧ cd L m = x)) ∧ σ'.get r = some (rdR s (p + 1)) ∧ Mem.Only [r] σ σ') (fun i => L.length - i) 0 ⟨rfl, by omega, fun m h => by omega, e4, o34.bump _⟩ ?_
      clear e4 o34 o4 n4
      rintro i _ σ5 ⟨rfl, hi, hno, e5, o5⟩
      unfold F_ref02_Table_Next_l2
      obtain ⟨l, cc, g1, rl, rc, _, bl, bc⟩ := htk σ5 o5
      refine To.go ?_
      refine ldrw (v := l) g1 rfl ?_
      refine rl.len ?_
      refine ifD (fun hlt => ?_) (fun hge => ?_)
      · have hil : i < L.length := by omega
        have hgd := getD_of hil
        obtain ⟨b, ca, rfl, hget⟩ := rl.at hil
        have hcl := codes_len L
        obtain ⟨bc', cc', rfl, hgetc⟩ := rc.iat (L := codes L) (i := i) (x := (cd L i : Nat)) (by unfold codes arr; rw [List.getElem?_map, List.getElem?_range hil]; rfl) hil (by omega)
        refine To.go ?_
        refine ldrw (l := [_, _]) g1 rfl ?_
        refine To.go ?_
        refine And.intro (by omega) ?_
        refine hget _ ?_
        obtain ⟨y, hy⟩ : ∃ y, L[i] = y := ⟨_, rfl⟩
        rw [hy] at hgd ⊢
        refine To.go ?_
        refine ifD (fun heq => ?_) (fun hne => ?_)
        · repeat (first | refine To.go ?_ | with_reducible refine And.intro (by first | omega | exact ⟨rfl, rfl⟩) ?_ | ((with_reducible apply opt); (· (first | with_reducible assumption | rfl))) | ((with_reducible apply ldrw); (· (first | with_reducible assumption | (simp (disch := omega) only [go_sem, *]; try rfl))); (· (first | with_reducible assumption | rfl))) | ((with_reducible apply ldro); (· (first | with_reducible assumption | (simp (disch := omega) only [go_sem, *]; try rfl))); (· (first | with_reducible assumption | rfl))) | ((with_reducible apply st1); (· (first | with_reducible assumption | (simp (disch := omega) only [go_sem, *]; try rfl))); (· simp); (· rfl)) | with_reducible refine ifT rfl ?_ | with_reducible refine ifF (not_not_intro rfl) ?_ | with_reducible refine ifT (by omega) ?_ | with_reducible refine ifF (by omega) ?_)
          refine hgetc _ ?_
          refine To.go ?_
          refine ifD (fun heq2 => ?_) (fun hne2 => ?_)
          · rw [fnd_some hil ⟨by omega, by omega⟩ hno] at hd
            dsimp only at hd
            subst hd
            exact ⟨rfl, e5, o5.bump _⟩
          · refine iW_of (by omega) ?_
            refine again ⟨i + 1, ⟨by omega, by omega, fun m hm => ?_, e5, o5.bump _⟩, by omega⟩
            rcases Nat.eq_or_lt_of_le (Nat.le_of_lt_succ hm) with rfl | hm
            · exact fun h => hne2 (by omega)
            · exact hno m hm
        · refine iW_of (by omega) ?_
          refine again ⟨i + 1, ⟨by omega, by omega, fun m hm => ?_, e5, o5.bump _⟩, by omega⟩
          rcases Nat.eq_or_lt_of_le (Nat.le_of_lt_succ hm) with rfl | hm
          · exact fun h => hne (by omega)
          · exact hno m hm
      · rw [fnd_none fun m hm => hno m (by omega)] at hd
        dsimp only at hd
        refine iW_of (by omega) ?_
        exact again ⟨k, ⟨j + 1, x, p + 1, by omega, rfl, by omega, by omega, by omega, by omega, hd, e5, o5.bump _⟩, by omega⟩
    · obtain rfl : k = 0 := by omega
      unfold dec at hd
      subst hd
      exact ⟨rfl, e3, o3.bump _⟩
  obtain ⟨M, hM⟩ : ∃ M, many L = M := ⟨_, rfl⟩
  obtain ⟨T, hT⟩ : ∃ T, most L = T := ⟨_, rfl⟩
  rw [hM, hT] at hlg ⊢
  repeat (first | refine To.go ?_ | with_reducible refine And.intro (by first | omega | exact ⟨rfl, rfl⟩) ?_ | ((with_reducible apply opt); (· (first | with_reducible assumption | rfl))) | ((with_reducible apply ldrw); (· (first | with_reducible assumption | (simp (disch := omega) only [go_sem, *]; try rfl))); (· (first | with_reducible assumption | rfl))) | ((with_reducible apply ldro); (· (first | with_reducible assumption | (simp (disch := omega) only [go_sem, *]; try rfl))); (· (first | with_reducible assumption | rfl))) | ((with_reducible apply st1); (· (first | with_reducible assumption | (simp (disch := omega) only [go_sem, *]; try rfl))); (· simp); (· rfl)) | with_reducible refine ifT rfl ?_ | with_reducible refine ifF (not_not_intro rfl) ?_ | with_reducible refine ifT (by omega) ?_ | with_reducible refine ifF (by omega) ?_)
  refine joinI ?_
  unfold F_ref02_Table_Next_j1
  refine ifD (fun h0 => ?_) (fun h0 => ?_)
  · rw [if_neg (by omega), if_pos (by omega)] at hlg
    refine ifD (fun h1 => absurd h1 (by omega)) (fun h1 => ?_)
    refine joinI ?_
    have := main (σ1.bump 10) (o1.bump _) e1
    rw [← hlg] at this
    exact this
  · refine ifD (fun h1 => ?_) (fun h1 => ?_)
    · refine joinI ?_
      refine ifD (fun h2 => ?_) (fun h2 => ?_)
      · rw [if_pos (by omega)] at hlg
        have := main (σ1.bump 10) (o1.bump _) e1
        rw [← hlg] at this
        exact this
      · rw [if_neg (by omega), if_neg (by omega)] at hlg
        have := main (σ1.bump 9) (o1.bump _) e1
        rw [← hlg] at this
        exact this
    · rw [if_neg (by omega), if_neg (by omega)] at hlg
      refine joinI ?_
      have := main (σ1.bump 9) (o1.bump _) e1
      rw [← hlg] at this
      exact this
end Go.Vit
