/- Which codes lengths have: the document's answer, and the law. -/
import Derived.Test.YthkehkmnfaaagaaVH4
import Derived.Test.YthkehkmnfaaagaaVH2
set_option linter.unusedVariables false
set_option linter.unusedSimpArgs false
set_option linter.unusedSimpArgs false
set_option maxRecDepth 20000
namespace Go.Vit
open Go.Proofs
/-- The codes that are told ahead of length n, symbol i. -/
def cdB (L : List Int) (n i j : Nat) : Int := if 0 < L.getD j 0 ∧ (L.getD j 0 < n ∨ L.getD j 0 = n ∧ j < i) then (cd L j : Nat) else 0
/-- What the last code was. -/
def CW (L : List Int) (n i : Nat) (code was : Int) : Prop :=
  (was = 0 ∧ code = 0 ∧ fc L n + cN (L.take i) n = 0) ∨ ∃ w c : Nat, was = w ∧ code = c ∧ 1 ≤ w ∧ w ≤ n ∧ (c + 1) * 2 ^ (n - w) = fc L n + cN (L.take i) n
theorem CW.next {L : List Int} {n i : Nat} {code was : Int} (h : CW L n i code was) (hi : L.length ≤ i) : CW L (n + 1) 0 code was := by
  have e : fc L (n + 1) + cN (L.take 0) (n + 1) = (fc L n + cN (L.take i) n) * 2 := by
    rw [fc, List.take_of_length_le hi]; simp [cN]
  rcases h with ⟨h1, h2, h3⟩ | ⟨w, c, h1, h2, h3, h4, h5⟩
  · refine .inl ⟨h1, h2, ?_⟩
    rw [e, h3]
  · refine .inr ⟨w, c, h1, h2, h3, by omega, ?_⟩
    rw [e, ← h5, show n + 1 - w = (n - w) + 1 from by omega, Nat.pow_succ, Nat.mul_assoc]
theorem cdB_next {L : List Int} {n j : Nat} (i : Nat) (hj : j < L.length) (hi : L.length ≤ i) : cdB L n i j = cdB L (n + 1) 0 j := by
  unfold cdB
  by_cases h : 0 < L.getD j 0 ∧ (L.getD j 0 < n ∨ L.getD j 0 = n ∧ j < i)
  · rw [if_pos h, if_pos (by omega)]
  · rw [if_neg h, if_neg (by omega)]
theorem ref02_Codes {a : AV} {L : List Int} {σ : Mem} (ha : RdS 1 σ a (ic L) L.length) (hl : L.length ≤ 2 ^ 60) : ACalls PG n_ref02_Codes [a] σ fun v σ' => CodesR L σ σ' v := by
  refine ok_ref02_Codes fun live => ?_
  unfold F_ref02_Codes
  have hla := ha.lt live
  refine callW_of (ref02_Check (σ := σ.bump 5) (ha.keep fun _ _ => rfl) hl) ?_
  rintro _ σ1 ⟨rfl, s1⟩
  have n1 := s1.next
  simp only [Mem.next_bump] at n1
  replace s1 := s1.ob
  refine To.go ?_
  by_cases hc : chk L = 0
  · have hL := chk_zero hc
    have hL1 := hL.1
    rw [hc]
    refine ifD (fun h => absurd rfl h) (fun _ => ?_)
    refine ha.len ?_
    repeat (first | refine To.go ?_ | with_reducible refine And.intro (by first | omega | exact ⟨rfl, rfl⟩) ?_ | ((with_reducible apply opt); (· (first | with_reducible assumption | rfl))) | ((with_reducible apply ldrw); (· (first | with_reducible assumption | (simp (disch := omega) only [go_sem, *]; try rfl))); (· (first | with_reducible assumption | rfl))) | ((with_reducible apply ldro); (· (first | with_reducible assumption | (simp (disch := omega) only [go_sem, *]; try rfl))); (· (first | with_reducible assumption | rfl))) | ((with_reducible apply st1); (· (first | with_reducible assumption | (simp (disch := omega) only [go_sem, *]; try rfl))); (· simp); (· rfl)) | with_reducible refine ifT rfl ?_ | with_reducible refine ifF (not_not_intro rfl) ?_ | with_reducible refine ifT (by omega) ?_ | with_reducible refine ifF (by omega) ?_)
    rw [Int.toNat_natCast, repl_zero]
    obtain ⟨ob, hob⟩ : ∃ b, σ1.next + 4 = b := ⟨_, rfl⟩
    rw [hob]
    obtain ⟨σ2, h2⟩ : ∃ σ2, σ2 = (σ1.bump 6).put ob (some (.rw (ic (arr (fun _ => 0) L.length)))) := ⟨_, rfl⟩
    rw [← h2]
    have n2 : σ2.next = σ1.next + 6 := by rw [h2]; rfl
    have eo : σ2.get ob = some (.rw (ic (arr (fun _ => 0) L.length))) := by rw [h2, gS']
    have s2 : σ.Same σ2 := by rw [h2]; repeat (with_reducible first | assumption | exact Mem.Only.refl _ _ | exact Mem.Same.refl _ | refine Mem.Only.bump ?_ _ | refine Mem.Only.put ?_ (by simp) _ | refine Mem.Only.put ?_ (.inr (by first | omega | (simp only [Mem.next_bump, Mem.next_put]; omega))) _ | refine Mem.Same.bump ?_ _ | refine Mem.Same.put ?_ (by first | omega | (simp only [Mem.next_bump, Mem.next_put]; omega)) _)
    clear h2
    refine loop3 (fun (n : Nat) (code was x : Int) σ' => x = n ∧ 1 ≤ n ∧ n ≤ 16 ∧ CW L n 0 code was ∧ σ.Same σ' ∧ ob < σ'.next ∧ σ'.get ob = some (.rw (ic (arr (cdB L n 0) L.length)))) (fun n => 16 - n) 1 ⟨rfl, by omega, by omega, ?_, s2.bump _, by simp only [Mem.next_bump]; omega, ?_⟩ ?_
    · refine .inl ⟨rfl, rfl, ?_⟩
      rw [fc, fc, cN_zero]; simp [cN]
    · rw [Mem.get_bump, eo, arr_ext fun j hj => ?_]
      unfold cdB
      rw [if_neg (by omega)]
    rintro n code was _ σ3 ⟨rfl, hn1, hn2, hcw, s3, n3, o3⟩
    unfold F_ref02_Codes_l1
    refine ifD (fun hle => ?_) (fun hgt => ?_)
    · have hb1 := fc_bound hL1 (n := n) (by omega)
      refine loop3 (fun (i : Nat) (code was x : Int) σ' => x = i ∧ i ≤ L.length ∧ CW L n i code was ∧ σ.Same σ' ∧ ob < σ'.next ∧ σ'.get ob = some (.rw (ic (arr (cdB L n i) L.length)))) (fun i => L.length - i) 0 ⟨rfl, by omega, hcw, s3.bump _, by simp only [Mem.next_bump]; omega, o3⟩ ?_
      rintro i code was _ σ4 ⟨rfl, hi, hcw, s4, n4, o4⟩
      unfold F_ref02_Codes_l2
      refine ha.len ?_
      refine ifD (fun hlt => ?_) (fun hge => ?_)
      · have hil : i < L.length := by omega
        obtain ⟨b, c, hae, hget⟩ := (ha.keep fun b hb => s4.get b (hla b hb)).at hil
        have hx := hL.2 _ (List.getElem_mem hil)
        have hcn := cN_take_succ hil
        have hcd := cd_at (n := n) hil
        have hgd := getD_of hil
        have hab : b < σ.next := hla b (by rw [hae]; simp [blkOf])
        have hb2 := cN_take_le L i n
        have hb3 := cN_le L n
        rw [hae]
        refine join2 (fun code was σ' => CW L n (i + 1) code was ∧ σ.Same σ' ∧ ob < σ'.next ∧ σ'.get ob = some (.rw (ic (arr (cdB L n (i + 1)) L.length)))) ?_ ?_
        · refine To.go ?_
          refine And.intro (by omega) ?_
          refine hget _ ?_
          obtain ⟨x, hxe⟩ : ∃ x, L[i] = x := ⟨_, rfl⟩
          rw [hxe] at hx hcn hcd hgd ⊢
          refine To.go ?_
          refine ifD (fun hne => ?_) (fun heq => ?_)
          · refine ⟨?_, s4.bump _, by simp only [Mem.next_bump]; omega, ?_⟩
            · unfold CW
              rw [hcn n, if_neg (by omega)]
              exact hcw
            · rw [Mem.get_bump, o4, arr_ext fun j hj => ?_]
              unfold cdB
              by_cases hji : j = i
              · subst hji
                rw [hgd]
                by_cases h : 0 < x ∧ (x < n ∨ x = n ∧ j < j)
                · rw [if_pos h, if_pos (by omega)]
                · rw [if_neg h, if_neg (by omega)]
              · by_cases h : 0 < L.getD j 0 ∧ (L.getD j 0 < n ∨ L.getD j 0 = n ∧ j < i)
                · rw [if_pos h, if_pos (by omega)]
                · rw [if_neg h, if_neg (by omega)]
          · obtain rfl : x = n := by omega
            have hm := hcd rfl (by omega)
            have hfin : ∀ σ', σ.Same σ' → ob < σ'.next → σ'.get ob = some (.rw (ic (arr (cdB L n i) L.length))) → F_ref02_Codes_j2 σ1 L.length n i (fun code was σ' => CW L n (i + 1) code was ∧ σ.Same σ' ∧ ob < σ'.next ∧ σ'.get ob = some (.rw (ic (arr (cdB L n (i + 1)) L.length)))) (cd L i : Nat) σ' := by
              intro σ' s' n' o'
              unfold F_ref02_Codes_j2
              rw [hob, Int.toNat_natCast]
              refine To.go ?_
              refine And.intro (by omega) ?_
              refine st1 o' (by rw [ic_len, arr_len]; omega) rfl ?_
              repeat (first | refine To.go ?_ | with_reducible refine And.intro (by first | omega | exact ⟨rfl, rfl⟩) ?_ | ((with_reducible apply opt); (· (first | with_reducible assumption | rfl))) | ((with_reducible apply ldrw); (· (first | with_reducible assumption | (simp (disch := omega) only [go_sem, *]; try rfl))); (· (first | with_reducible assumption | rfl))) | ((with_reducible apply ldro); (· (first | with_reducible assumption | (simp (disch := omega) only [go_sem, *]; try rfl))); (· (first | with_reducible assumption | rfl))) | ((with_reducible apply st1); (· (first | with_reducible assumption | (simp (disch := omega) only [go_sem, *]; try rfl))); (· simp); (· rfl)) | with_reducible refine ifT rfl ?_ | with_reducible refine ifF (not_not_intro rfl) ?_ | with_reducible refine ifT (by omega) ?_ | with_reducible refine ifF (by omega) ?_)
              refine ⟨.inr ⟨n, cd L i, rfl, rfl, by omega, Nat.le_refl _, ?_⟩, by repeat (with_reducible first | assumption | exact Mem.Only.refl _ _ | exact Mem.Same.refl _ | refine Mem.Only.bump ?_ _ | refine Mem.Only.put ?_ (by simp) _ | refine Mem.Only.put ?_ (.inr (by first | omega | (simp only [Mem.next_bump, Mem.next_put]; omega))) _ | refine Mem.Same.bump ?_ _ | refine Mem.Same.put ?_ (by first | omega | (simp only [Mem.next_bump, Mem.next_put]; omega)) _), by simp only [Mem.next_bump, Mem.next_put]; omega, ?_⟩
              · rw [hcn n, if_pos ⟨by omega, rfl⟩, hm, Nat.sub_self, Nat.pow_zero, Nat.mul_one]; omega
              · rw [Mem.get_bump, gS', ic_set, arr_set, arr_ext fun j hj => ?_]
                unfold cdB
                by_cases hji : j = i
                · subst hji
                  rw [hgd, if_pos rfl, if_pos (by omega)]
                · rw [if_neg hji]
                  by_cases h : 0 < L.getD j 0 ∧ (L.getD j 0 < n ∨ L.getD j 0 = n ∧ j < i)
                  · rw [if_pos h, if_pos (by omega)]
                  · rw [if_neg h, if_neg (by omega)]
            refine join1 (fun v σ' => v = (cd L i : Nat) ∧ σ.Same σ' ∧ ob < σ'.next ∧ σ'.get ob = some (.rw (ic (arr (cdB L n i) L.length)))) ?_ ?_
            · rcases hcw with ⟨rfl, rfl, h3⟩ | ⟨w, c, rfl, rfl, h3, h4, h5⟩
              · refine ifD (fun h => absurd h (by omega)) (fun _ => ?_)
                exact ⟨by rw [hm, h3]; rfl, s4.bump _, by simp only [Mem.next_bump]; omega, o4⟩
              · refine ifD (fun _ => ?_) (fun h => absurd h (by omega))
                have hp : 0 < 2 ^ (n - w) := Nat.two_pow_pos _
                have hcb : c + 1 ≤ (c + 1) * 2 ^ (n - w) := Nat.le_mul_of_pos_right _ hp
                have e : ((c : Int) + 1) * 2 ^ ((n : Int) - w).toNat = (cd L i : Nat) := by
                  rw [hm, ← h5, show ((n : Int) - w).toNat = n - w from by omega]; push_cast; rfl
                refine To.go ?_
                refine And.intro (by omega) ?_
                refine To.go ?_
                refine And.intro (by omega) ?_
                refine To.go ?_
                refine And.intro (by omega) ?_
                rw [e]
                refine To.go ?_
                refine And.intro (by omega) ?_
                exact ⟨rfl, s4.bump _, by simp only [Mem.next_bump]; omega, o4⟩
            · rintro _ σ5 ⟨rfl, s5, n5, o5⟩
              exact hfin σ5 s5 n5 o5
        · rintro code was σ5 ⟨hcw, s5, n5, o5⟩
          unfold F_ref02_Codes_j1
          repeat (first | refine To.go ?_ | with_reducible refine And.intro (by first | omega | exact ⟨rfl, rfl⟩) ?_ | ((with_reducible apply opt); (· (first | with_reducible assumption | rfl))) | ((with_reducible apply ldrw); (· (first | with_reducible assumption | (simp (disch := omega) only [go_sem, *]; try rfl))); (· (first | with_reducible assumption | rfl))) | ((with_reducible apply ldro); (· (first | with_reducible assumption | (simp (disch := omega) only [go_sem, *]; try rfl))); (· (first | with_reducible assumption | rfl))) | ((with_reducible apply st1); (· (first | with_reducible assumption | (simp (disch := omega) only [go_sem, *]; try rfl))); (· simp); (· rfl)) | with_reducible refine ifT rfl ?_ | with_reducible refine ifF (not_not_intro rfl) ?_ | with_reducible refine ifT (by omega) ?_ | with_reducible refine ifF (by omega) ?_)
          exact again ⟨i + 1, ⟨by omega, by omega, hcw, s5.bump _, by simp only [Mem.next_bump]; omega, o5⟩, by omega⟩
      · have hil : L.length ≤ i := by omega
        repeat (first | refine To.go ?_ | with_reducible refine And.intro (by first | omega | exact ⟨rfl, rfl⟩) ?_ | ((with_reducible apply opt); (· (first | with_reducible assumption | rfl))) | ((with_reducible apply ldrw); (· (first | with_reducible assumption | (simp (disch := omega) only [go_sem, *]; try rfl))); (· (first | with_reducible assumption | rfl))) | ((with_reducible apply ldro); (· (first | with_reducible assumption | (simp (disch := omega) only [go_sem, *]; try rfl))); (· (first | with_reducible assumption | rfl))) | ((with_reducible apply st1); (· (first | with_reducible assumption | (simp (disch := omega) only [go_sem, *]; try rfl))); (· simp); (· rfl)) | with_reducible refine ifT rfl ?_ | with_reducible refine ifF (not_not_intro rfl) ?_ | with_reducible refine ifT (by omega) ?_ | with_reducible refine ifF (by omega) ?_)
        refine again ⟨n + 1, ⟨by omega, by omega, by omega, hcw.next hil, s4.bump _, by simp only [Mem.next_bump]; omega, ?_⟩, by omega⟩
        rw [Mem.get_bump, o4, arr_ext fun j hj => cdB_next i hj hil]
    · obtain rfl : n = 16 := by omega
      rw [hob, Int.toNat_natCast]
      refine ⟨_, by rw [hc], fun h => absurd hc h, fun _ => ⟨hL, ob, rfl, ?_, by have := s1.next; omega, by simp only [Mem.next_bump]; omega⟩, s3.bump _⟩
      rw [Mem.get_bump, o3]
      unfold codes
      rw [arr_ext fun j hj => ?_]
      have := hL.2 _ (List.getElem_mem hj)
      have hgd := getD_of hj
      unfold cdB
      rw [hgd]
      by_cases h : 0 < L[j]
      · rw [if_pos (by omega)]
      · rw [if_neg (by omega), cd_none hj h]; rfl
  · refine ifD (fun h => ?_) (fun h => absurd (Decidable.not_not.1 h) hc)
    exact ⟨_, rfl, fun _ => rfl, fun h => absurd h hc, s1.bump _⟩
theorem cd_le {L : List Int} (hL : lens L) (i : Nat) : cd L i ≤ 288 * 65536 + 288 := by
  unfold cd
  split
  · rename_i h
    have hm : (L.getD i 0).toNat ≤ 15 := by
      by_cases hi : i < L.length
      · rw [getD_of hi]; have := hL.2 _ (List.getElem_mem hi); omega
      · rw [List.getD_eq_getElem?_getD, List.getElem?_eq_none (by omega)]; exact Nat.zero_le _
    have h1 := fc_bound hL.1 hm
    have h2 := cN_take_le L i (L.getD i 0).toNat
    have h3 := cN_le L (L.getD i 0).toNat
    have := hL.1
    omega
  · omega
theorem CodesR.rd {L : List Int} {σ σ' : Mem} {v : AV} (h : CodesR L σ σ' v) : ∃ c l, v = .tup [c, .int .i64 (chk L)] ∧ l.length ≤ L.length ∧ l = (if chk L = 0 then codes L else []) ∧ RdS 1 σ' c (ic l) l.length ∧ (∀ b ∈ blkOf c, σ.next ≤ b ∧ b < σ'.next) ∧ (∀ n : Nat, n = l.length → (n ≠ 0 → ∃ b, c = .slice b 0 n (.ex n) ∧ σ'.get b = some (.rw (ic l)) ∧ σ.next ≤ b ∧ b < σ'.next)) ∧ σ.Same σ' := by
  obtain ⟨c, rfl, h1, h2, h3⟩ := h
  by_cases hc : chk L = 0
  · obtain ⟨hL, b, rfl, hg, hb, hb'⟩ := h2 hc
    refine ⟨_, codes L, rfl, by rw [codes_len]; omega, by rw [if_pos hc], .inr ⟨b, _, by rw [codes_len], ⟨_, hg, rfl⟩, by rw [ic_len]; omega⟩, fun b' hm => by simp [blkOf] at hm; omega, ?_, h3⟩
    rintro n rfl hn
    exact ⟨b, by rw [codes_len], hg, hb, hb'⟩
  · rw [h1 hc]
    exact ⟨_, [], rfl, by simp, by rw [if_neg hc], .inl ⟨rfl, rfl, rfl⟩, fun b' hm => by simp [blkOf] at hm, fun n hn h => absurd hn h, h3⟩
theorem law02_HuffCodes (σ : Mem) (l : List AV) (_ : σ.Ro) (hw : Wts PG σ Try.f4.params.toList l) : ACalls PG n_law02_HuffCodes l σ fun v _ => isTrue v := by
  obtain ⟨a, L, rfl, ha, hn, _⟩ := args_L (show Wts PG σ [22] l by rw [Try.params4] at hw; exact hw)
  clear hw
  refine ok_law02_HuffCodes fun live => ?_
  unfold F_law02_HuffCodes
  have hla := ha.lt live
  repeat (first | refine To.go ?_ | with_reducible refine And.intro (by first | omega | exact ⟨rfl, rfl⟩) ?_ | ((with_reducible apply opt); (· (first | with_reducible assumption | rfl))) | ((with_reducible apply ldrw); (· (first | with_reducible assumption | (simp (disch := omega) only [go_sem, *]; try rfl))); (· (first | with_reducible assumption | rfl))) | ((with_reducible apply ldro); (· (first | with_reducible assumption | (simp (disch := omega) only [go_sem, *]; try rfl))); (· (first | with_reducible assumption | rfl))) | ((with_reducible apply st1); (· (first | with_reducible assumption | (simp (disch := omega) only [go_sem, *]; try rfl))); (· simp); (· rfl)) | with_reducible refine ifT rfl ?_ | with_reducible refine ifF (not_not_intro rfl) ?_ | with_reducible refine ifT (by omega) ?_ | with_reducible refine ifF (by omega) ?_)
  obtain ⟨σ1, h1⟩ : ∃ σ1, σ1 = (σ.bump 5).put (σ.next + 1) (some (.rw [])) := ⟨_, rfl⟩
  rw [← h1]
  have n1 : σ1.next = σ.next + 5 := by rw [h1]; rfl
  have e1 : σ1.get (σ.next + 1) = some (.rw []) := by rw [h1, gS']
  have s1 : σ.Same σ1 := by rw [h1]; repeat (with_reducible first | assumption | exact Mem.Only.refl _ _ | exact Mem.Same.refl _ | refine Mem.Only.bump ?_ _ | refine Mem.Only.put ?_ (by simp) _ | refine Mem.Only.put ?_ (.inr (by first | omega | (simp only [Mem.next_bump, Mem.next_put]; omega))) _ | refine Mem.Same.bump ?_ _ | refine Mem.Same.put ?_ (by first | omega | (simp only [Mem.next_bump, Mem.next_put]; omega)) _)
  clear h1
  have ha1 := ha.keep fun b hb => s1.get b (hla b hb)
  have main : ∀ v σ', RdS 1 σ' v (ic L) L.length → (∀ b ∈ blkOf v, σ.next < b ∧ b < σ'.next) → σ.Same σ' → (callW PG n_huff_Codes [v] (σ'.bump 7) fun v3 σ4 =>
tupW v3 0 fun v5 =>
tpI v3 1 fun v6 =>
callW PG n_ref02_Codes [a] (σ4.bump 7) fun v7 σ8 =>
tupW v7 0 fun v9 =>
tpI v7 1 fun v10 =>
ifB (decide (v6 ≠ v10)) (
isTrue (.bool false)) (
callW PG n_law02_ints [v5, v9] (σ8.bump 9) fun v11 σ12 =>
castB v11 fun v13 =>
ifB (!v13) (
isTrue (.bool false)) (
loopF [tI] (F_law02_HuffCodes_l1 a (fun v _ => isTrue v) v v5) 0 (σ12.bump 1)))) := by
    intro v σ2 own ob s2
    refine callW_of (huff_Codes (σ := σ2.bump 7) (own.keep fun _ _ => rfl) (by omega)) ?_
    rintro _ σ3 h3
    obtain ⟨c, l, rfl, hl, hl', rc, bc, wc, s3⟩ := h3.rd
    have n3 := s3.next
    simp only [Mem.next_bump] at n3 bc
    replace s3 := s3.ob
    have s23 := s2.trans s3
    repeat (first | refine To.go ?_ | with_reducible refine And.intro (by first | omega | exact ⟨rfl, rfl⟩) ?_ | ((with_reducible apply opt); (· (first | with_reducible assumption | rfl))) | ((with_reducible apply ldrw); (· (first | with_reducible assumption | (simp (disch := omega) only [go_sem, *]; try rfl))); (· (first | with_reducible assumption | rfl))) | ((with_reducible apply ldro); (· (first | with_reducible assumption | (simp (disch := omega) only [go_sem, *]; try rfl))); (· (first | with_reducible assumption | rfl))) | ((with_reducible apply st1); (· (first | with_reducible assumption | (simp (disch := omega) only [go_sem, *]; try rfl))); (· simp); (· rfl)) | with_reducible refine ifT rfl ?_ | with_reducible refine ifF (not_not_intro rfl) ?_ | with_reducible refine ifT (by omega) ?_ | with_reducible refine ifF (by omega) ?_)
    refine callW_of (ref02_Codes (σ := σ3.bump 7) (ha.keep fun b hb => s23.get b (hla b hb)) (by omega)) ?_
    rintro _ σ4 h4
    obtain ⟨d, m, rfl, hm, hm', rd, bd, _, s4⟩ := h4.rd
    have n4 := s4.next
    simp only [Mem.next_bump] at n4
    have s4' := s4.ob
    repeat (first | refine To.go ?_ | with_reducible refine And.intro (by first | omega | exact ⟨rfl, rfl⟩) ?_ | ((with_reducible apply opt); (· (first | with_reducible assumption | rfl))) | ((with_reducible apply ldrw); (· (first | with_reducible assumption | (simp (disch := omega) only [go_sem, *]; try rfl))); (· (first | with_reducible assumption | rfl))) | ((with_reducible apply ldro); (· (first | with_reducible assumption | (simp (disch := omega) only [go_sem, *]; try rfl))); (· (first | with_reducible assumption | rfl))) | ((with_reducible apply st1); (· (first | with_reducible assumption | (simp (disch := omega) only [go_sem, *]; try rfl))); (· simp); (· rfl)) | with_reducible refine ifT rfl ?_ | with_reducible refine ifF (not_not_intro rfl) ?_ | with_reducible refine ifT (by omega) ?_ | with_reducible refine ifF (by omega) ?_)
    refine callW_of (law02_ints (σ := σ4.bump 9) (rc.keep fun b hb => s4'.get b (bc b hb).2) (rd.keep fun _ _ => rfl) (by omega)) ?_
    rintro _ σ5 ⟨rfl, s5⟩
    have n5 := s5.next
    simp only [Mem.next_bump] at n5
    replace s5 := s5.ob
    rw [hl', hm']
    repeat (first | refine To.go ?_ | with_reducible refine And.intro (by first | omega | exact ⟨rfl, rfl⟩) ?_ | ((with_reducible apply opt); (· (first | with_reducible assumption | rfl))) | ((with_reducible apply ldrw); (· (first | with_reducible assumption | (simp (disch := omega) only [go_sem, *]; try rfl))); (· (first | with_reducible assumption | rfl))) | ((with_reducible apply ldro); (· (first | with_reducible assumption | (simp (disch := omega) only [go_sem, *]; try rfl))); (· (first | with_reducible assumption | rfl))) | ((with_reducible apply st1); (· (first | with_reducible assumption | (simp (disch := omega) only [go_sem, *]; try rfl))); (· simp); (· rfl)) | with_reducible refine ifT rfl ?_ | with_reducible refine ifF (not_not_intro rfl) ?_ | with_reducible refine ifT (by omega) ?_ | with_reducible refine ifF (by omega) ?_)
    have s35 := s4'.trans s5
    refine loop1 (fun (i : Nat) (x : Int) σ' => x = i ∧ i ≤ l.length ∧ Mem.Only (blkOf c) σ3 σ' ∧ (l.length ≠ 0 → ∀ b, c = .slice b 0 l.length (.ex l.length) → ∃ l', l'.length = l.length ∧ σ'.get b = some (.rw (ic l')))) (fun i => l.length - i) 0 ⟨rfl, by omega, ?_, ?_⟩ ?_
    · exact ⟨by simp only [Mem.next_bump]; omega, fun b hb _ => s35.get b hb⟩
    · intro h0 b hc
      obtain ⟨b', hb', hg, hn, hn'⟩ := wc _ rfl h0
      rw [hc] at hb'
      injection hb' with hb'
      subst hb'
      exact ⟨l, rfl, (s35.get b hn').trans hg⟩
    rintro i _ σ6 ⟨rfl, hi, o6, r6⟩
    unfold F_law02_HuffCodes_l1
    refine rc.len ?_
    refine ifD (fun hlt => ?_) (fun hge => ?_)
    · have hil : i < l.length := by omega
      obtain ⟨b, rfl, hg, hb, hb'⟩ := wc _ rfl (by omega)
      obtain ⟨l', hl', hg'⟩ := r6 (by omega) b rfl
      refine To.go ?_
      refine And.intro (by omega) ?_
      refine st1 hg' (by rw [ic_len]; omega) rfl ?_
      repeat (first | refine To.go ?_ | with_reducible refine And.intro (by first | omega | exact ⟨rfl, rfl⟩) ?_ | ((with_reducible apply opt); (· (first | with_reducible assumption | rfl))) | ((with_reducible apply ldrw); (· (first | with_reducible assumption | (simp (disch := omega) only [go_sem, *]; try rfl))); (· (first | with_reducible assumption | rfl))) | ((with_reducible apply ldro); (· (first | with_reducible assumption | (simp (disch := omega) only [go_sem, *]; try rfl))); (· (first | with_reducible assumption | rfl))) | ((with_reducible apply st1); (· (first | with_reducible assumption | (simp (disch := omega) only [go_sem, *]; try rfl))); (· simp); (· rfl)) | with_reducible refine ifT rfl ?_ | with_reducible refine ifF (not_not_intro rfl) ?_ | with_reducible refine ifT (by omega) ?_ | with_reducible refine ifF (by omega) ?_)
      refine again ⟨i + 1, ⟨by omega, by omega, ?_, ?_⟩, by omega⟩
      · refine ⟨by simp only [Mem.next_bump, Mem.next_put]; have := o6.next; omega, fun b' h1 h2 => ?_⟩
        simp [blkOf] at h2
        rw [Mem.get_bump, Mem.get_put_ne _ h2]
        exact o6.get b' h1 (by simp [blkOf]; exact h2)
      · intro _ b' hb'
        injection hb' with hb'
        subst hb'
        refine ⟨l'.set i (-1), by rw [List.length_set]; exact hl', ?_⟩
        rw [Mem.get_bump, gS', ic_set]
    · refine callW_of (law02_ints (σ := σ6.bump 11) (L := L) (M := L) (own.keep fun b hb => ?_) (ha.keep fun b hb => ?_) (by omega)) ?_
      · have := ob b hb
        rw [Mem.get_bump, o6.get b (by omega) fun h => by have := bc b h; omega]
        exact s3.get b (by omega)
      · have := hla b hb
        have := s2.next
        rw [Mem.get_bump, o6.get b (by omega) fun h => by have := bc b h; omega]
        exact s23.get b (by omega)
      rintro _ σ7 ⟨rfl, s7⟩
      repeat (first | refine To.go ?_ | with_reducible refine And.intro (by first | omega | exact ⟨rfl, rfl⟩) ?_ | ((with_reducible apply opt); (· (first | with_reducible assumption | rfl))) | ((with_reducible apply ldrw); (· (first | with_reducible assumption | (simp (disch := omega) only [go_sem, *]; try rfl))); (· (first | with_reducible assumption | rfl))) | ((with_reducible apply ldro); (· (first | with_reducible assumption | (simp (disch := omega) only [go_sem, *]; try rfl))); (· (first | with_reducible assumption | rfl))) | ((with_reducible apply st1); (· (first | with_reducible assumption | (simp (disch := omega) only [go_sem, *]; try rfl))); (· simp); (· rfl)) | with_reducible refine ifT rfl ?_ | with_reducible refine ifF (not_not_intro rfl) ?_ | with_reducible refine ifT (by omega) ?_ | with_reducible refine ifF (by omega) ?_)
      refine callW_of (law02_awake _) ?_
      rintro v σ8 ⟨rfl, rfl⟩
      repeat (first | refine To.go ?_ | with_reducible refine And.intro (by first | omega | exact ⟨rfl, rfl⟩) ?_ | ((with_reducible apply opt); (· (first | with_reducible assumption | rfl))) | ((with_reducible apply ldrw); (· (first | with_reducible assumption | (simp (disch := omega) only [go_sem, *]; try rfl))); (· (first | with_reducible assumption | rfl))) | ((with_reducible apply ldro); (· (first | with_reducible assumption | (simp (disch := omega) only [go_sem, *]; try rfl))); (· (first | with_reducible assumption | rfl))) | ((with_reducible apply st1); (· (first | with_reducible assumption | (simp (disch := omega) only [go_sem, *]; try rfl))); (· simp); (· rfl)) | with_reducible refine ifT rfl ?_ | with_reducible refine ifF (not_not_intro rfl) ?_ | with_reducible refine ifT (by omega) ?_ | with_reducible refine ifF (by omega) ?_)
      exact rfl
  refine ap_fresh e1 ha1 (ic_one _) (by omega) (fun h0 => ?_) (fun h0 => ?_)
  · refine main _ _ (.inr ⟨_, _, by rw [h0], ⟨_, e1, by rw [List.length_eq_zero_iff.1 h0]; rfl⟩, ?_⟩) ?_ s1
    · simp [List.length_eq_zero_iff.1 h0, ic]
    · simp [blkOf]; omega
  · refine main _ _ (.inr ⟨_, _, rfl, ⟨_, gS', rfl⟩, by rw [ic_len, Nat.mul_one]⟩) ?_ ?_
    · simp only [blkOf, List.mem_singleton, Mem.next_put]
      rintro b rfl
      omega
    · repeat (with_reducible first | assumption | exact Mem.Only.refl _ _ | exact Mem.Same.refl _ | refine Mem.Only.bump ?_ _ | refine Mem.Only.put ?_ (by simp) _ | refine Mem.Only.put ?_ (.inr (by first | omega | (simp only [Mem.next_bump, Mem.next_put]; omega))) _ | refine Mem.Same.bump ?_ _ | refine Mem.Same.put ?_ (by first | omega | (simp only [Mem.next_bump, Mem.next_put]; omega)) _)
end Go.Vit
