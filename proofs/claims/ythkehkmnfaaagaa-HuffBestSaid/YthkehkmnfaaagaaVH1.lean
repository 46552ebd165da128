/- Lists of numbers; whether lengths are those of a full set of codes. -/
import Derived.Test.YthkehkmnfaaagaaV2C
import Derived.Test.YthkehkmnfaaagaaVm3
set_option linter.unusedVariables false
set_option linter.unusedSimpArgs false
set_option linter.unusedSimpArgs false
set_option maxRecDepth 20000
namespace Go.Vit
open Go.Proofs
theorem RdS.at {σ : Mem} {v : AV} {L : List Int} (h : RdS 1 σ v (ic L) L.length) {i : Nat} (hi : i < L.length) : ∃ b c, v = .slice b 0 L.length c ∧ ∀ {K : AV → Prop} (n : Nat), K (.int .i64 L[i]) → ldW (σ.bump n) (.ptr b i) K := by
  obtain ⟨b, c, rfl, h1, _⟩ := h.pos (by omega)
  exact ⟨b, c, rfl, fun n hk => ld_rd (σ := σ.bump n) h1 (ic_get hi) hk⟩
theorem huff_Check_1 {x : Int} (σ : Mem) : ACalls PG n_huff_Check_1 [.int .i64 x] σ fun v σ' => v = .bool (decide (¬ (0 ≤ x ∧ x ≤ 15))) ∧ σ.Same σ' := by
  refine ok_huff_Check_1 fun _ => ?_
  unfold F_huff_Check_1
  refine ifD (fun h => ?_) (fun h => ?_)
  · exact ⟨by rw [decide_eq_true (by omega)], (Mem.Same.refl σ).bump _⟩
  · refine ⟨?_, (Mem.Same.refl σ).bump _⟩
    congr 1; rw [decide_eq_decide]; omega
theorem slices_IndexFunc {a : AV} {L : List Int} {f : AV} {p : Int → Bool} {σ : Mem} (ha : RdS 1 σ a (ic L) L.length) (hl : L.length ≤ 2 ^ 60)
    (hf : ∀ σ' x, x ∈ L → σ.Same σ' → ∀ n K, (∀ σ'', σ'.Same σ'' → K (.bool (p x)) σ'') → callvW PG f [.int .i64 x] (σ'.bump n) K) :
    ACalls PG n_slices_IndexFunc___int_int_ [a, f] σ fun v σ' => (∃ n : Int, v = .int .i64 n ∧ (0 ≤ n ↔ ∃ x ∈ L, p x = true)) ∧ σ.Same σ' := by
  refine ok_slices_IndexFunc___int_int_ fun live => ?_
  unfold F_slices_IndexFunc___int_int_
  have hla := ha.lt live
  refine ha.len ?_
  refine loop1 (fun (i : Nat) (x : Int) σ' => x = i ∧ i ≤ L.length ∧ (∀ x ∈ L.take i, p x = false) ∧ σ.Same σ') (fun i => L.length - i) 0 ⟨rfl, by omega, by simp, (Mem.Same.refl σ).bump _⟩ ?_
  rintro i _ σ1 ⟨rfl, hi, hp, s1⟩
  unfold F_slices_IndexFunc___int_int__l1
  refine ifD (fun hlt => ?_) (fun hge => ?_)
  · have hil : i < L.length := by omega
    obtain ⟨b, c, rfl, hget⟩ := (ha.keep fun b hb => s1.get b (hla b hb)).at hil
    repeat (first | refine To.go ?_ | with_reducible refine And.intro (by first | omega | exact ⟨rfl, rfl⟩) ?_ | ((with_reducible apply opt); (· (first | with_reducible assumption | rfl))) | ((with_reducible apply ldrw); (· (first | with_reducible assumption | (simp (disch := omega) only [go_sem, *]; try rfl))); (· (first | with_reducible assumption | rfl))) | ((with_reducible apply ldro); (· (first | with_reducible assumption | (simp (disch := omega) only [go_sem, *]; try rfl))); (· (first | with_reducible assumption | rfl))) | ((with_reducible apply st1); (· (first | with_reducible assumption | (simp (disch := omega) only [go_sem, *]; try rfl))); (· simp); (· rfl)) | with_reducible refine ifT rfl ?_ | with_reducible refine ifF (not_not_intro rfl) ?_ | with_reducible refine ifT (by omega) ?_ | with_reducible refine ifF (by omega) ?_)
    refine hget _ ?_
    have hmem := List.getElem_mem hil
    have htake := List.take_succ_eq_append_getElem hil
    obtain ⟨x, hx⟩ : ∃ x, L[i] = x := ⟨_, rfl⟩
    rw [hx] at hmem htake ⊢
    repeat (first | refine To.go ?_ | with_reducible refine And.intro (by first | omega | exact ⟨rfl, rfl⟩) ?_ | ((with_reducible apply opt); (· (first | with_reducible assumption | rfl))) | ((with_reducible apply ldrw); (· (first | with_reducible assumption | (simp (disch := omega) only [go_sem, *]; try rfl))); (· (first | with_reducible assumption | rfl))) | ((with_reducible apply ldro); (· (first | with_reducible assumption | (simp (disch := omega) only [go_sem, *]; try rfl))); (· (first | with_reducible assumption | rfl))) | ((with_reducible apply st1); (· (first | with_reducible assumption | (simp (disch := omega) only [go_sem, *]; try rfl))); (· simp); (· rfl)) | with_reducible refine ifT rfl ?_ | with_reducible refine ifF (not_not_intro rfl) ?_ | with_reducible refine ifT (by omega) ?_ | with_reducible refine ifF (by omega) ?_)
    refine hf σ1 x hmem s1 _ _ fun σ2 s2 => ?_
    repeat (first | refine To.go ?_ | with_reducible refine And.intro (by first | omega | exact ⟨rfl, rfl⟩) ?_ | ((with_reducible apply opt); (· (first | with_reducible assumption | rfl))) | ((with_reducible apply ldrw); (· (first | with_reducible assumption | (simp (disch := omega) only [go_sem, *]; try rfl))); (· (first | with_reducible assumption | rfl))) | ((with_reducible apply ldro); (· (first | with_reducible assumption | (simp (disch := omega) only [go_sem, *]; try rfl))); (· (first | with_reducible assumption | rfl))) | ((with_reducible apply st1); (· (first | with_reducible assumption | (simp (disch := omega) only [go_sem, *]; try rfl))); (· simp); (· rfl)) | with_reducible refine ifT rfl ?_ | with_reducible refine ifF (not_not_intro rfl) ?_ | with_reducible refine ifT (by omega) ?_ | with_reducible refine ifF (by omega) ?_)
    refine ifI (fun h => ?_) (fun h => ?_)
    · exact ⟨⟨i, rfl, ⟨fun _ => ⟨x, hmem, h⟩, fun _ => by omega⟩⟩, (s1.trans s2).bump _⟩
    · repeat (first | refine To.go ?_ | with_reducible refine And.intro (by first | omega | exact ⟨rfl, rfl⟩) ?_ | ((with_reducible apply opt); (· (first | with_reducible assumption | rfl))) | ((with_reducible apply ldrw); (· (first | with_reducible assumption | (simp (disch := omega) only [go_sem, *]; try rfl))); (· (first | with_reducible assumption | rfl))) | ((with_reducible apply ldro); (· (first | with_reducible assumption | (simp (disch := omega) only [go_sem, *]; try rfl))); (· (first | with_reducible assumption | rfl))) | ((with_reducible apply st1); (· (first | with_reducible assumption | (simp (disch := omega) only [go_sem, *]; try rfl))); (· simp); (· rfl)) | with_reducible refine ifT rfl ?_ | with_reducible refine ifF (not_not_intro rfl) ?_ | with_reducible refine ifT (by omega) ?_ | with_reducible refine ifF (by omega) ?_)
      refine again ⟨i + 1, ⟨by omega, by omega, fun y hy => ?_, (s1.trans s2).bump _⟩, by omega⟩
      rw [htake, List.mem_append] at hy
      rcases hy with hy | hy
      · exact hp y hy
      · simp at hy; rw [hy]; exact h
  · obtain rfl : i = L.length := by omega
    rw [List.take_length] at hp
    exact ⟨⟨-1, rfl, ⟨fun h => absurd h (by decide), fun ⟨x, h1, h2⟩ => by rw [hp x h1] at h2; exact absurd h2 (by decide)⟩⟩, s1.bump _⟩
theorem slices_ContainsFunc {a : AV} {L : List Int} {f : AV} {p : Int → Bool} {σ : Mem} (ha : RdS 1 σ a (ic L) L.length) (hl : L.length ≤ 2 ^ 60)
    (hf : ∀ σ' x, x ∈ L → σ.Same σ' → ∀ n K, (∀ σ'', σ'.Same σ'' → K (.bool (p x)) σ'') → callvW PG f [.int .i64 x] (σ'.bump n) K) :
    ACalls PG n_slices_ContainsFunc___int_int_ [a, f] σ fun v σ' => v = .bool (decide (∃ x ∈ L, p x = true)) ∧ σ.Same σ' := by
  refine ok_slices_ContainsFunc___int_int_ fun live => ?_
  unfold F_slices_ContainsFunc___int_int_
  refine callW_of (slices_IndexFunc (σ := σ.bump 6) (p := p) (ha.keep fun _ _ => rfl) hl fun σ' x hx s => hf σ' x hx s.ob) ?_
  rintro _ σ1 ⟨⟨n, rfl, hn⟩, s1⟩
  repeat (first | refine To.go ?_ | with_reducible refine And.intro (by first | omega | exact ⟨rfl, rfl⟩) ?_ | ((with_reducible apply opt); (· (first | with_reducible assumption | rfl))) | ((with_reducible apply ldrw); (· (first | with_reducible assumption | (simp (disch := omega) only [go_sem, *]; try rfl))); (· (first | with_reducible assumption | rfl))) | ((with_reducible apply ldro); (· (first | with_reducible assumption | (simp (disch := omega) only [go_sem, *]; try rfl))); (· (first | with_reducible assumption | rfl))) | ((with_reducible apply st1); (· (first | with_reducible assumption | (simp (disch := omega) only [go_sem, *]; try rfl))); (· simp); (· rfl)) | with_reducible refine ifT rfl ?_ | with_reducible refine ifF (not_not_intro rfl) ?_ | with_reducible refine ifT (by omega) ?_ | with_reducible refine ifF (by omega) ?_)
  refine ⟨?_, s1.ob⟩
  congr 1; rw [decide_eq_decide]; exact hn
theorem huff_bad {a : AV} {L : List Int} {σ : Mem} (ha : RdS 1 σ a (ic L) L.length) (hl : L.length ≤ 2 ^ 60) :
    ACalls PG n_slices_ContainsFunc___int_int_ [a, .func n_huff_Check_1 []] σ fun v σ' => v = .bool (decide (∃ x ∈ L, ¬ (0 ≤ x ∧ x ≤ 15))) ∧ σ.Same σ' := by
  refine (slices_ContainsFunc (p := fun x => decide (¬ (0 ≤ x ∧ x ≤ 15))) ha hl fun σ' x _ _ n K hk => ?_).mono ?_
  · refine callvW_of (l' := []) (huff_Check_1 _) ?_
    rintro _ σ1 ⟨rfl, s⟩
    exact hk _ s.ob
  · rintro _ σ1 ⟨rfl, s⟩
    refine ⟨?_, s⟩
    congr 1; rw [decide_eq_decide]
    simp only [decide_eq_true_eq]
def cA (L : List Int) : List AV := ic (arr (fun n => (cN L n : Nat)) 16)
theorem cA_len (L : List Int) : (cA L).length = 16 := by unfold cA; rw [ic_len, arr_len]
theorem huff_counted {a : AV} {L : List Int} {σ : Mem} (ha : RdS 1 σ a (ic L) L.length) (hL : lens L) :
    ACalls PG n_huff_counted [a] σ fun v σ' => v = .agg (cA L) ∧ σ.Same σ' := by
  refine ok_huff_counted fun live => ?_
  unfold F_huff_counted
  have hla := ha.lt live
  repeat (first | refine To.go ?_ | with_reducible refine And.intro (by first | omega | exact ⟨rfl, rfl⟩) ?_ | ((with_reducible apply opt); (· (first | with_reducible assumption | rfl))) | ((with_reducible apply ldrw); (· (first | with_reducible assumption | (simp (disch := omega) only [go_sem, *]; try rfl))); (· (first | with_reducible assumption | rfl))) | ((with_reducible apply ldro); (· (first | with_reducible assumption | (simp (disch := omega) only [go_sem, *]; try rfl))); (· (first | with_reducible assumption | rfl))) | ((with_reducible apply st1); (· (first | with_reducible assumption | (simp (disch := omega) only [go_sem, *]; try rfl))); (· simp); (· rfl)) | with_reducible refine ifT rfl ?_ | with_reducible refine ifF (not_not_intro rfl) ?_ | with_reducible refine ifT (by omega) ?_ | with_reducible refine ifF (by omega) ?_)
  refine ha.len ?_
  simp only [Mem.next_bump, Mem.next_put]
  refine loop1 (fun (i : Nat) (x : Int) σ' => x = i ∧ i ≤ L.length ∧ σ.Same σ' ∧ σ.next + 1 < σ'.next ∧ (∃ l, σ'.get σ.next = some (.rw l) ∧ l.length = 16) ∧ σ'.get (σ.next + 1) = some (.rw (cA (L.take i)))) (fun i => L.length - i) 0 ⟨rfl, by omega, ?_, ?_, ⟨List.replicate 16 (.int .i64 0), ?_, rfl⟩, ?_⟩ ?_
  · repeat (with_reducible first | assumption | exact Mem.Only.refl _ _ | exact Mem.Same.refl _ | refine Mem.Only.bump ?_ _ | refine Mem.Only.put ?_ (by simp) _ | refine Mem.Only.put ?_ (.inr (by first | omega | (simp only [Mem.next_bump, Mem.next_put]; omega))) _ | refine Mem.Same.bump ?_ _ | refine Mem.Same.put ?_ (by first | omega | (simp only [Mem.next_bump, Mem.next_put]; omega)) _)
  · simp only [Mem.next_bump, Mem.next_put]; omega
  · rw [Mem.get_bump, Mem.get_put_ne _ (by omega), Mem.get_bump, gS']
  · rw [Mem.get_bump, gS', arr_zero]
    unfold cA; rw [arr_ext (g := fun n => ((cN (L.take 0) n : Nat) : Int)) fun j _ => by simp [cN]]
  rintro i _ σ1 ⟨rfl, hi, s1, hn1, ⟨l, hl1, hl2⟩, e1⟩
  unfold F_huff_counted_l1
  simp only [Mem.next_bump, Mem.next_put]
  refine ifD (fun hlt => ?_) (fun hge => ?_)
  · have hil : i < L.length := by omega
    obtain ⟨b, c, rfl, hget⟩ := (ha.keep fun b hb => s1.get b (hla b hb)).at hil
    have hx := hL.2 _ (List.getElem_mem hil)
    have hc := cN_take_succ hil
    have hle := cN_take_le L i
    have hll := cN_le L
    have hL1 := hL.1
    repeat (first | refine To.go ?_ | with_reducible refine And.intro (by first | omega | exact ⟨rfl, rfl⟩) ?_ | ((with_reducible apply opt); (· (first | with_reducible assumption | rfl))) | ((with_reducible apply ldrw); (· (first | with_reducible assumption | (simp (disch := omega) only [go_sem, *]; try rfl))); (· (first | with_reducible assumption | rfl))) | ((with_reducible apply ldro); (· (first | with_reducible assumption | (simp (disch := omega) only [go_sem, *]; try rfl))); (· (first | with_reducible assumption | rfl))) | ((with_reducible apply st1); (· (first | with_reducible assumption | (simp (disch := omega) only [go_sem, *]; try rfl))); (· simp); (· rfl)) | with_reducible refine ifT rfl ?_ | with_reducible refine ifF (not_not_intro rfl) ?_ | with_reducible refine ifT (by omega) ?_ | with_reducible refine ifF (by omega) ?_)
    refine hget _ ?_
    obtain ⟨x, hxe⟩ : ∃ x, L[i] = x := ⟨_, rfl⟩
    rw [hxe] at hx hc ⊢
    refine To.go ?_
    refine join0 (fun σ' => σ.Same σ' ∧ σ.next + 1 < σ'.next ∧ (∃ l, σ'.get σ.next = some (.rw l) ∧ l.length = 16) ∧ σ'.get (σ.next + 1) = some (.rw (cA (L.take (i + 1))))) ?_ ?_
    · refine ifD (fun h0 => ?_) (fun h0 => ?_)
      · obtain ⟨m, rfl⟩ := int_nat hx.1
        have hg : (cA (L.take i))[m]? = some (.int .i64 (cN (L.take i) m : Nat)) := arr_get (by omega)
        have hm1 := hle m
        have hm2 := hll m
        refine To.go ?_
        refine And.intro (by omega) ?_
        rw [show 0 + m * 1 = m from by omega]
        refine To.go ?_
        refine ldrw (l := cA (L.take i)) e1 hg ?_
        refine To.go ?_
        refine To.go ?_
        refine And.intro (by omega) ?_
        refine To.go ?_
        refine And.intro (by omega) ?_
        rw [show 0 + m * 1 = m from by omega]
        refine st1 e1 (by rw [cA_len]; omega) rfl ?_
        refine ⟨by repeat (with_reducible first | assumption | exact Mem.Only.refl _ _ | exact Mem.Same.refl _ | refine Mem.Only.bump ?_ _ | refine Mem.Only.put ?_ (by simp) _ | refine Mem.Only.put ?_ (.inr (by first | omega | (simp only [Mem.next_bump, Mem.next_put]; omega))) _ | refine Mem.Same.bump ?_ _ | refine Mem.Same.put ?_ (by first | omega | (simp only [Mem.next_bump, Mem.next_put]; omega)) _), by simp only [Mem.next_bump, Mem.next_put]; omega, ⟨l, ?_, hl2⟩, ?_⟩
        · rw [Mem.get_put_ne _ (by omega)]; exact hl1
        · rw [gS']
          unfold cA
          rw [ic_set, arr_set, arr_ext fun j hj => ?_]
          rw [hc j]
          by_cases hjm : j = m
          · subst hjm; rw [if_pos rfl, if_pos ⟨h0, rfl⟩]; omega
          · rw [if_neg hjm, if_neg fun e => hjm (by omega)]; omega
      · refine ⟨s1.bump _, by simp only [Mem.next_bump]; omega, ⟨l, hl1, hl2⟩, ?_⟩
        rw [Mem.get_bump, e1]
        unfold cA
        rw [arr_ext fun j _ => ?_]
        rw [hc j, if_neg fun e => h0 e.1]; omega
    · rintro σ2 ⟨s2, hn2, h2, e2⟩
      unfold F_huff_counted_j1
      repeat (first | refine To.go ?_ | with_reducible refine And.intro (by first | omega | exact ⟨rfl, rfl⟩) ?_ | ((with_reducible apply opt); (· (first | with_reducible assumption | rfl))) | ((with_reducible apply ldrw); (· (first | with_reducible assumption | (simp (disch := omega) only [go_sem, *]; try rfl))); (· (first | with_reducible assumption | rfl))) | ((with_reducible apply ldro); (· (first | with_reducible assumption | (simp (disch := omega) only [go_sem, *]; try rfl))); (· (first | with_reducible assumption | rfl))) | ((with_reducible apply st1); (· (first | with_reducible assumption | (simp (disch := omega) only [go_sem, *]; try rfl))); (· simp); (· rfl)) | with_reducible refine ifT rfl ?_ | with_reducible refine ifF (not_not_intro rfl) ?_ | with_reducible refine ifT (by omega) ?_ | with_reducible refine ifF (by omega) ?_)
      exact again ⟨i + 1, ⟨by omega, by omega, s2.bump _, by simp only [Mem.next_bump]; omega, h2, e2⟩, by omega⟩
  · obtain rfl : i = L.length := by omega
    rw [List.take_length] at e1
    refine ldnq e1 rfl (by rw [cA_len]; omega) ?_
    rw [List.drop_zero, ← cA_len L, List.take_length]
    refine stn hl1 (by rw [hl2, cA_len]; omega) rfl (ic_one _) ?_
    refine ldnq gS' rfl (by rw [setAt_length, hl2, cA_len]; omega) ?_
    refine ⟨?_, by repeat (with_reducible first | assumption | exact Mem.Only.refl _ _ | exact Mem.Same.refl _ | refine Mem.Only.bump ?_ _ | refine Mem.Only.put ?_ (by simp) _ | refine Mem.Only.put ?_ (.inr (by first | omega | (simp only [Mem.next_bump, Mem.next_put]; omega))) _ | refine Mem.Same.bump ?_ _ | refine Mem.Same.put ?_ (by first | omega | (simp only [Mem.next_bump, Mem.next_put]; omega)) _)⟩
    rw [setAt_whole (by rw [hl2, cA_len]), List.drop_zero, List.take_length]
theorem cA_at {L : List Int} {k : Nat} (h : k < 16) : (cA L)[k]? = some (.int .i64 (cN L k : Nat)) := arr_get h
theorem chk_bad {L : List Int} (h : ¬ lens L) : chk L = 1 := if_pos h
theorem chk_good {L : List Int} (h : lens L) : chk L = if 32768 < room L then 10 else if room L < 32768 ∧ 0 < many L ∧ ¬ (many L = 1 ∧ cN L 1 ≠ 0) then 11 else 0 := if_neg (not_not_intro h)
theorem huff_Check {a : AV} {L : List Int} {σ : Mem} (ha : RdS 1 σ a (ic L) L.length) (hl : L.length ≤ 2 ^ 60) :
    ACalls PG n_huff_Check [a] σ fun v σ' => v = .int .i64 (chk L) ∧ σ.Same σ' := by
  refine ok_huff_Check fun live => ?_
  unfold F_huff_Check
  have hla := ha.lt live
  refine ha.len ?_
  refine ifD (fun h => ?_) (fun h288 => ?_)
  · exact ⟨by rw [chk_bad fun h' => by have := h'.1; omega], (Mem.Same.refl σ).bump _⟩
  refine callW_of (huff_bad (σ := σ.bump 8) (ha.keep fun _ _ => rfl) hl) ?_
  rintro _ σ1 ⟨rfl, s1⟩
  replace s1 := s1.ob
  by_cases hbad : ∃ x ∈ L, ¬ (0 ≤ x ∧ x ≤ 15)
  · rw [decide_eq_true hbad]
    repeat (first | refine To.go ?_ | with_reducible refine And.intro (by first | omega | exact ⟨rfl, rfl⟩) ?_ | ((with_reducible apply opt); (· (first | with_reducible assumption | rfl))) | ((with_reducible apply ldrw); (· (first | with_reducible assumption | (simp (disch := omega) only [go_sem, *]; try rfl))); (· (first | with_reducible assumption | rfl))) | ((with_reducible apply ldro); (· (first | with_reducible assumption | (simp (disch := omega) only [go_sem, *]; try rfl))); (· (first | with_reducible assumption | rfl))) | ((with_reducible apply st1); (· (first | with_reducible assumption | (simp (disch := omega) only [go_sem, *]; try rfl))); (· simp); (· rfl)) | with_reducible refine ifT rfl ?_ | with_reducible refine ifF (not_not_intro rfl) ?_ | with_reducible refine ifT (by omega) ?_ | with_reducible refine ifF (by omega) ?_)
    refine ⟨?_, s1.bump _⟩
    rw [chk_bad fun h' => ?_]
    obtain ⟨x, h1, h2⟩ := hbad
    exact h2 (h'.2 x h1)
  rw [decide_eq_false hbad]
  have hL : lens L := ⟨by omega, fun x hx => by
    rcases Classical.em (0 ≤ x ∧ x ≤ 15) with h | h
    · exact h
    · exact absurd ⟨x, hx, h⟩ hbad⟩
  repeat (first | refine To.go ?_ | with_reducible refine And.intro (by first | omega | exact ⟨rfl, rfl⟩) ?_ | ((with_reducible apply opt); (· (first | with_reducible assumption | rfl))) | ((with_reducible apply ldrw); (· (first | with_reducible assumption | (simp (disch := omega) only [go_sem, *]; try rfl))); (· (first | with_reducible assumption | rfl))) | ((with_reducible apply ldro); (· (first | with_reducible assumption | (simp (disch := omega) only [go_sem, *]; try rfl))); (· (first | with_reducible assumption | rfl))) | ((with_reducible apply st1); (· (first | with_reducible assumption | (simp (disch := omega) only [go_sem, *]; try rfl))); (· simp); (· rfl)) | with_reducible refine ifT rfl ?_ | with_reducible refine ifF (not_not_intro rfl) ?_ | with_reducible refine ifT (by omega) ?_ | with_reducible refine ifF (by omega) ?_)
  have ha1 := ha.keep fun b hb => s1.get b (hla b hb)
  refine callW_of (huff_counted (σ := σ1.bump 4) (ha1.keep fun _ _ => rfl) hL) ?_
  rintro _ σ2 ⟨rfl, s2⟩
  have s2' := s2.next
  simp only [Mem.next_bump] at s2'
  replace s2 := s2.ob
  refine To.go ?_
  refine stn gS' (by simp) (cA_len L) (ic_one _) ?_
  obtain ⟨b, hb⟩ : ∃ b, σ1.next + 2 = b := ⟨_, rfl⟩
  rw [setAt_whole (by rw [cA_len]; rfl), hb]
  refine ldnq gS' rfl (by rw [cA_len]; omega) ?_
  rw [List.drop_zero, ← cA_len L, List.take_length]
  obtain ⟨hm, hw⟩ := sums hL.2
  have hr := room_le L
  have hml := many_le L
  have hL1 := hL.1
  have s02 := s1.trans s2
  refine loop3 (fun (k : Nat) (s m x : Int) σ' => x = k ∧ k ≤ 16 ∧ s = (wsum (cN L) k : Nat) ∧ m = (msum (cN L) k : Nat) ∧ σ.Same σ' ∧ σ'.get b = some (.rw (cA L))) (fun k => 16 - k) 0 ⟨rfl, by omega, rfl, rfl, ?_, ?_⟩ ?_
  · have := s1.next
    repeat (with_reducible first | assumption | exact Mem.Only.refl _ _ | exact Mem.Same.refl _ | refine Mem.Only.bump ?_ _ | refine Mem.Only.put ?_ (by simp) _ | refine Mem.Only.put ?_ (.inr (by first | omega | (simp only [Mem.next_bump, Mem.next_put]; omega))) _ | refine Mem.Same.bump ?_ _ | refine Mem.Same.put ?_ (by first | omega | (simp only [Mem.next_bump, Mem.next_put]; omega)) _)
  · rw [Mem.get_bump, gS']
  rintro k _ _ _ σ3 ⟨rfl, hk, rfl, rfl, s3, e3⟩
  unfold F_huff_Check_l1
  rw [hb]
  have hws := wsum_le (c := cN L) hk
  have hms := msum_le (c := cN L) hk
  refine ifD (fun hlt => ?_) (fun hge => ?_)
  · have hk' : k < 16 := by omega
    have hws1 := wsum_le (c := cN L) (show k + 1 ≤ 16 by omega)
    have hms1 := msum_le (c := cN L) (show k + 1 ≤ 16 by omega)
    have hstep : wsum (cN L) (k + 1) = wsum (cN L) k + cN L k * 2 ^ (15 - k) := rfl
    have hstepm : msum (cN L) (k + 1) = msum (cN L) k + cN L k := rfl
    have hcl := cN_le L k
    refine To.go ?_
    refine And.intro (by omega) ?_
    refine opt (v := .int .i64 (cN L k : Nat)) ?_ ?_
    · show (cA L)[(k : Int).toNat * 1]? = _
      rw [Int.toNat_natCast, Nat.mul_one]; exact cA_at hk'
    rw [hw] at hws hws1
    rw [hm] at hms hms1
    rw [hstep] at hws1
    obtain ⟨y, hy⟩ : ∃ y, cN L k * 2 ^ (15 - k) = y := ⟨_, rfl⟩
    rw [hy] at hws1 hstep
    repeat (first | refine To.go ?_ | with_reducible refine And.intro (by first | omega | exact ⟨rfl, rfl⟩) ?_ | ((with_reducible apply opt); (· (first | with_reducible assumption | rfl))) | ((with_reducible apply ldrw); (· (first | with_reducible assumption | (simp (disch := omega) only [go_sem, *]; try rfl))); (· (first | with_reducible assumption | rfl))) | ((with_reducible apply ldro); (· (first | with_reducible assumption | (simp (disch := omega) only [go_sem, *]; try rfl))); (· (first | with_reducible assumption | rfl))) | ((with_reducible apply st1); (· (first | with_reducible assumption | (simp (disch := omega) only [go_sem, *]; try rfl))); (· simp); (· rfl)) | with_reducible refine ifT rfl ?_ | with_reducible refine ifF (not_not_intro rfl) ?_ | with_reducible refine ifT (by omega) ?_ | with_reducible refine ifF (by omega) ?_)
    rw [show ((15 : Int) - k).toNat = 15 - k from by omega, show ((cN L k : Nat) : Int) * 2 ^ (15 - k) = (y : Nat) from by rw [← hy]; simp]
    repeat (first | refine To.go ?_ | with_reducible refine And.intro (by first | omega | exact ⟨rfl, rfl⟩) ?_ | ((with_reducible apply opt); (· (first | with_reducible assumption | rfl))) | ((with_reducible apply ldrw); (· (first | with_reducible assumption | (simp (disch := omega) only [go_sem, *]; try rfl))); (· (first | with_reducible assumption | rfl))) | ((with_reducible apply ldro); (· (first | with_reducible assumption | (simp (disch := omega) only [go_sem, *]; try rfl))); (· (first | with_reducible assumption | rfl))) | ((with_reducible apply st1); (· (first | with_reducible assumption | (simp (disch := omega) only [go_sem, *]; try rfl))); (· simp); (· rfl)) | with_reducible refine ifT rfl ?_ | with_reducible refine ifF (not_not_intro rfl) ?_ | with_reducible refine ifT (by omega) ?_ | with_reducible refine ifF (by omega) ?_)
    exact again ⟨k + 1, ⟨by omega, by omega, by rw [hstep]; omega, by rw [hstepm]; omega, s3.bump _, e3⟩, by omega⟩
  · obtain rfl : k = 16 := by omega
    rw [hw, hm]
    have hn1 := cA_at (L := L) (k := 1) (by decide)
    have hC := chk_good hL
    obtain ⟨R, hR⟩ : ∃ R, room L = R := ⟨_, rfl⟩
    obtain ⟨M, hM⟩ : ∃ M, many L = M := ⟨_, rfl⟩
    obtain ⟨C, hCe⟩ : ∃ C, chk L = C := ⟨_, rfl⟩
    rw [hR, hM, hCe] at hC
    rw [hR, hM, hCe]
    refine ifD (fun h1 => ?_) (fun h1 => ?_)
    · exact ⟨by rw [hC, if_pos (by omega)], s3.bump _⟩
    rw [if_neg (by omega)] at hC

    with_reducible refine ifD (fun h2 => ?_) (fun h2 => ?_)
    · refine ifD (fun h3 => ?_) (fun h3 => ?_)
      · refine ifD (fun h4 => ?_) (fun h4 => ?_)
        · exact ⟨by rw [hC, if_pos ⟨by omega, by omega, by omega⟩], s3.bump _⟩
        · refine To.go ?_
          refine And.intro (by decide) ?_
          refine To.go ?_
          refine ldrw (l := cA L) e3 hn1 ?_
          refine To.go ?_
          refine ifD (fun h5 => ?_) (fun h5 => ?_)
          · exact ⟨by rw [hC, if_pos ⟨by omega, by omega, by omega⟩], s3.bump _⟩
          · exact ⟨by rw [hC, if_neg (by omega)], s3.bump _⟩
      · exact ⟨by rw [hC, if_neg (by omega)], s3.bump _⟩
    · exact ⟨by rw [hC, if_neg (by omega)], s3.bump _⟩
theorem args_ints {σ : Mem} {l : List AV} {t e : TypeId} (hu : PG.underlying t = some (.slice e)) (he : PG.underlying e = some (.int .i64)) (hc : PG.cellsOf e = 1) (hb : PG.bytesOf e = 8) (hw : Wts PG σ [t] l) :
    ∃ a L, l = [a] ∧ RdS 1 σ a (ic L) L.length ∧ L.length ≤ 2 ^ 44 ∧ ∀ x ∈ L, -9223372036854775808 ≤ x ∧ x ≤ 9223372036854775807 := by
  obtain ⟨a, r, L, rfl, hw, ha, hn, hL⟩ := hw.ints hu he hc hb
  obtain rfl := hw.nil_inv
  exact ⟨a, L, rfl, ha, hn, hL⟩
end Go.Vit
