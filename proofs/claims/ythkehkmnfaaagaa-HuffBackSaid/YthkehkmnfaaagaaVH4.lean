/- Which codes lengths have: both answers. -/
import Derived.Test.YthkehkmnfaaagaaVH3
set_option linter.unusedVariables false
set_option linter.unusedSimpArgs false
set_option linter.unusedSimpArgs false
set_option maxRecDepth 20000
namespace Go.Vit
open Go.Proofs
/-- What Codes answers. -/
def CodesR (L : List Int) (σ σ' : Mem) (v : AV) : Prop :=
  ∃ c, v = .tup [c, .int .i64 (chk L)] ∧ (chk L ≠ 0 → c = .nils) ∧ (chk L = 0 → lens L ∧ ∃ b, c = .slice b 0 L.length (.ex L.length) ∧ σ'.get b = some (.rw (ic (codes L))) ∧ σ.next ≤ b ∧ b < σ'.next) ∧ σ.Same σ'
theorem chk_zero {L : List Int} (h : chk L = 0) : lens L := by
  rcases Classical.em (lens L) with h' | h'
  · exact h'
  · rw [chk_bad h'] at h; exact absurd h (by decide)
theorem huff_Codes {a : AV} {L : List Int} {σ : Mem} (ha : RdS 1 σ a (ic L) L.length) (hl : L.length ≤ 2 ^ 60) : ACalls PG n_huff_Codes [a] σ fun v σ' => CodesR L σ σ' v := by
  refine ok_huff_Codes fun live => ?_
  unfold F_huff_Codes
  have hla := ha.lt live
  refine callW_of (huff_Check (σ := σ.bump 5) (ha.keep fun _ _ => rfl) hl) ?_
  rintro _ σ1 ⟨rfl, s1⟩
  replace s1 := s1.ob
  refine To.go ?_
  by_cases hc : chk L = 0
  · have hL := chk_zero hc
    have hL1 := hL.1
    rw [hc]
    repeat (first | refine To.go ?_ | with_reducible refine And.intro (by first | omega | exact ⟨rfl, rfl⟩) ?_ | ((with_reducible apply opt); (· (first | with_reducible assumption | rfl))) | ((with_reducible apply ldrw); (· (first | with_reducible assumption | (simp (disch := omega) only [go_sem, *]; try rfl))); (· (first | with_reducible assumption | rfl))) | ((with_reducible apply ldro); (· (first | with_reducible assumption | (simp (disch := omega) only [go_sem, *]; try rfl))); (· (first | with_reducible assumption | rfl))) | ((with_reducible apply st1); (· (first | with_reducible assumption | (simp (disch := omega) only [go_sem, *]; try rfl))); (· simp); (· rfl)) | with_reducible refine ifT rfl ?_ | with_reducible refine ifF (not_not_intro rfl) ?_ | with_reducible refine ifT (by omega) ?_ | with_reducible refine ifF (by omega) ?_)
    have ha1 := ha.keep fun b hb => s1.get b (hla b hb)
    refine callW_of (huff_counted (σ := σ1.bump 7) (ha1.keep fun _ _ => rfl) hL) ?_
    rintro _ σ2 ⟨rfl, s2⟩
    have n2 := s2.next
    simp only [Mem.next_bump] at n2
    replace s2 := s2.ob
    refine callW_of (huff_first hL) ?_
    rintro _ σ3 ⟨rfl, s3⟩
    have n3 := s3.next
    refine To.go ?_
    obtain ⟨nb, hnb⟩ : ∃ b, σ1.next + 5 = b := ⟨_, rfl⟩
    rw [hnb]
    refine stn gS' (by simp) (fA_len L 0) (ic_one _) ?_
    rw [setAt_whole (by rw [fA_len]; simp)]
    have s03 := (s1.trans s2).trans s3
    have s13 := s2.trans s3
    have n1 := s1.next
    refine ha.len ?_
    repeat (first | refine To.go ?_ | with_reducible refine And.intro (by first | omega | exact ⟨rfl, rfl⟩) ?_ | ((with_reducible apply opt); (· (first | with_reducible assumption | rfl))) | ((with_reducible apply ldrw); (· (first | with_reducible assumption | (simp (disch := omega) only [go_sem, *]; try rfl))); (· (first | with_reducible assumption | rfl))) | ((with_reducible apply ldro); (· (first | with_reducible assumption | (simp (disch := omega) only [go_sem, *]; try rfl))); (· (first | with_reducible assumption | rfl))) | ((with_reducible apply st1); (· (first | with_reducible assumption | (simp (disch := omega) only [go_sem, *]; try rfl))); (· simp); (· rfl)) | with_reducible refine ifT rfl ?_ | with_reducible refine ifF (not_not_intro rfl) ?_ | with_reducible refine ifT (by omega) ?_ | with_reducible refine ifF (by omega) ?_)
    rw [Int.toNat_natCast, repl_zero]
    simp only [Mem.next_bump, Mem.next_put]
    obtain ⟨ob, hob⟩ : ∃ b, σ3.next + 2 = b := ⟨_, rfl⟩
    rw [hob]
    obtain ⟨σ4, h4⟩ : ∃ σ4, σ4 = ((((σ3.put nb (some (.rw (List.replicate 16 (.int .i64 0))))).put nb (some (.rw (fA L 0)))).bump 4).put ob (some (.rw (ic (arr (fun _ => 0) L.length))))) := ⟨_, rfl⟩
    rw [← h4]
    have n4 : σ4.next = σ3.next + 4 := by rw [h4]; rfl
    have en : σ4.get nb = some (.rw (fA L 0)) := by rw [h4, Mem.get_put_ne _ (by omega), Mem.get_bump, gS']
    have eo : σ4.get ob = some (.rw (ic (arr (fun _ => 0) L.length))) := by rw [h4, gS']
    have s04 : σ.Same σ4 := by rw [h4]; repeat (with_reducible first | assumption | exact Mem.Only.refl _ _ | exact Mem.Same.refl _ | refine Mem.Only.bump ?_ _ | refine Mem.Only.put ?_ (by simp) _ | refine Mem.Only.put ?_ (.inr (by first | omega | (simp only [Mem.next_bump, Mem.next_put]; omega))) _ | refine Mem.Same.bump ?_ _ | refine Mem.Same.put ?_ (by first | omega | (simp only [Mem.next_bump, Mem.next_put]; omega)) _)
    clear h4
    have ha4 := ha.keep fun b hb => s04.get b (hla b hb)
    refine ha4.len ?_
    refine loop1 (fun (i : Nat) (x : Int) σ' => x = i ∧ i ≤ L.length ∧ σ.Same σ' ∧ ob < σ'.next ∧ σ'.get nb = some (.rw (fA L i)) ∧ σ'.get ob = some (.rw (ic (arr (fun j => if j < i then (cd L j : Nat) else 0) L.length)))) (fun i => L.length - i) 0 ⟨rfl, by omega, s04.bump _, by simp only [Mem.next_bump]; omega, en, ?_⟩ ?_
    · rw [Mem.get_bump, eo, arr_ext fun j hj => ?_]
      rw [if_neg (by omega)]
    rintro i _ σ5 ⟨rfl, hi, s5, n5, e5, o5⟩
    unfold F_huff_Codes_l1
    simp only [Mem.next_bump, Mem.next_put]
    rw [hnb, hob, Int.toNat_natCast]
    refine ifD (fun hlt => ?_) (fun hge => ?_)
    · have hil : i < L.length := by omega
      obtain ⟨b, c, hae, hget⟩ := (ha.keep fun b hb => s5.get b (hla b hb)).at hil
      have hx := hL.2 _ (List.getElem_mem hil)
      have hcn := cN_take_succ hil
      have hcd := fun n => cd_at (n := n) hil
      have hcd0 := cd_none hil
      have hab : b < σ.next := hla b (by rw [hae]; simp [blkOf])
      rw [hae]
      refine To.go ?_
      refine And.intro (by omega) ?_
      refine hget _ ?_
      obtain ⟨x, hxe⟩ : ∃ x, L[i] = x := ⟨_, rfl⟩
      rw [hxe] at hx hcn hcd hcd0 ⊢
      refine To.go ?_
      refine join0 (fun σ' => σ.Same σ' ∧ ob < σ'.next ∧ σ'.get nb = some (.rw (fA L (i + 1))) ∧ σ'.get ob = some (.rw (ic (arr (fun j => if j < i + 1 then (cd L j : Nat) else 0) L.length)))) ?_ ?_
      · refine ifD (fun h0 => ?_) (fun h0 => ?_)
        · obtain ⟨m, rfl⟩ := int_nat hx.1
          have hm := hcd m rfl (by omega)
          have hb1 := fc_bound hL1 (n := m) (by omega)
          have hb2 := cN_take_le L i m
          have hb3 := cN_le L m
          have g5 : (fA L i)[m]? = some (.int .i64 (cd L i : Nat)) := by
            unfold fA; rw [arr_get (by omega), hm]
          refine To.go ?_
          refine And.intro (by omega) ?_
          rw [show 0 + m * 1 = m from by omega]
          refine To.go ?_
          refine ldrw e5 g5 ?_
          refine To.go ?_
          refine To.go ?_
          refine And.intro (by omega) ?_
          refine st1 o5 (by rw [ic_len, arr_len]; omega) rfl ?_
          refine To.go ?_
          refine And.intro (by omega) ?_
          rw [show 0 + m * 1 = m from by omega]
          refine To.go ?_
          refine ldrw (l := fA L i) (by rw [Mem.get_bump, Mem.get_put_ne _ (by omega)]; exact e5) g5 ?_
          refine To.go ?_
          refine To.go ?_
          refine And.intro (by omega) ?_
          refine To.go ?_
          refine And.intro (by omega) ?_
          rw [show 0 + m * 1 = m from by omega]
          refine st1 (l := fA L i) (by rw [Mem.get_bump, Mem.get_put_ne _ (by omega)]; exact e5) (by rw [fA_len]; omega) rfl ?_
          refine ⟨by repeat (with_reducible first | assumption | exact Mem.Only.refl _ _ | exact Mem.Same.refl _ | refine Mem.Only.bump ?_ _ | refine Mem.Only.put ?_ (by simp) _ | refine Mem.Only.put ?_ (.inr (by first | omega | (simp only [Mem.next_bump, Mem.next_put]; omega))) _ | refine Mem.Same.bump ?_ _ | refine Mem.Same.put ?_ (by first | omega | (simp only [Mem.next_bump, Mem.next_put]; omega)) _), by simp only [Mem.next_bump, Mem.next_put]; omega, ?_, ?_⟩
          · rw [gS']
            unfold fA
            rw [ic_set, arr_set, arr_ext fun j hj => ?_]
            rw [hcn j, hm]
            by_cases hjm : j = m
            · subst hjm; rw [if_pos rfl, if_pos ⟨h0, rfl⟩]; omega
            · rw [if_neg hjm, if_neg fun e => hjm (by omega)]; omega
          · rw [Mem.get_put_ne _ (by omega), Mem.get_bump, gS', ic_set, arr_set, arr_ext fun j hj => ?_]
            by_cases hji : j = i
            · subst hji; rw [if_pos rfl, if_pos (by omega)]
            · rw [if_neg hji]
              by_cases hj' : j < i
              · rw [if_pos hj', if_pos (by omega)]
              · rw [if_neg hj', if_neg (by omega)]
        · refine ⟨s5.bump _, by simp only [Mem.next_bump]; omega, ?_, ?_⟩
          · rw [Mem.get_bump, e5]
            unfold fA
            rw [arr_ext fun j hj => ?_]
            rw [hcn j, if_neg fun e => h0 e.1]; omega
          · rw [Mem.get_bump, o5, arr_ext fun j hj => ?_]
            by_cases hji : j = i
            · subst hji; rw [if_neg (by omega), if_pos (by omega), hcd0 h0]; rfl
            · by_cases hj' : j < i
              · rw [if_pos hj', if_pos (by omega)]
              · rw [if_neg hj', if_neg (by omega)]
      · rintro σ6 ⟨s6, n6, e6, o6⟩
        unfold F_huff_Codes_j1
        repeat (first | refine To.go ?_ | with_reducible refine And.intro (by first | omega | exact ⟨rfl, rfl⟩) ?_ | ((with_reducible apply opt); (· (first | with_reducible assumption | rfl))) | ((with_reducible apply ldrw); (· (first | with_reducible assumption | (simp (disch := omega) only [go_sem, *]; try rfl))); (· (first | with_reducible assumption | rfl))) | ((with_reducible apply ldro); (· (first | with_reducible assumption | (simp (disch := omega) only [go_sem, *]; try rfl))); (· (first | with_reducible assumption | rfl))) | ((with_reducible apply st1); (· (first | with_reducible assumption | (simp (disch := omega) only [go_sem, *]; try rfl))); (· simp); (· rfl)) | with_reducible refine ifT rfl ?_ | with_reducible refine ifF (not_not_intro rfl) ?_ | with_reducible refine ifT (by omega) ?_ | with_reducible refine ifF (by omega) ?_)
        exact again ⟨i + 1, ⟨by omega, by omega, s6.bump _, by simp only [Mem.next_bump]; omega, e6, o6⟩, by omega⟩
    · obtain rfl : i = L.length := by omega
      refine ⟨_, by rw [hc], fun h => absurd hc h, fun _ => ⟨hL, ob, rfl, ?_, by have := s03.next; omega, by simp only [Mem.next_bump]; omega⟩, s5.bump _⟩
      rw [Mem.get_bump, o5]
      unfold codes
      rw [arr_ext fun j hj => if_pos hj]
  · refine ifD (fun h => ?_) (fun h => absurd (Decidable.not_not.1 h) hc)
    exact ⟨_, rfl, fun _ => rfl, fun h => absurd h hc, s1.bump _⟩
end Go.Vit
