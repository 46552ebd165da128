/- What tokens say: the document's. -/
import Derived.Test.YtjhmjjbllaodlaaVL2
import Derived.Test.YtjhmjjbllaodlaaVsL
set_option linter.unusedVariables false
set_option linter.unusedSimpArgs false
set_option linter.unusedSimpArgs false
set_option maxRecDepth 20000
namespace Go.Vit
open Go.Proofs
theorem ref04_Right {t : Tok} (σ : Mem) : ACalls PG n_ref04_Right [.agg (tokC t)] σ fun v σ' => v = .bool (decide (right t)) ∧ σ.Same σ' := by
  refine ok_ref04_Right fun live => ?_
  unfold F_ref04_Right tokC
  obtain ⟨b, ln, ds⟩ := t
  have s1 : ∀ k n, σ.Same ((((σ.bump k).put σ.next (some (.rw (AV.agg [.int .i64 b, .int .i64 ln, .int .i64 ds]).cells)))).bump n) := fun k n => by repeat (with_reducible first | assumption | exact Mem.Only.refl _ _ | exact Mem.Same.refl _ | refine Mem.Only.bump ?_ _ | refine Mem.Only.put ?_ (by simp) _ | refine Mem.Only.put ?_ (.inr (by first | omega | (simp only [Mem.next_bump, Mem.next_put]; omega))) _ | refine Mem.Same.bump ?_ _ | refine Mem.Same.put ?_ (by first | omega | (simp only [Mem.next_bump, Mem.next_put]; omega)) _)
  have e1 : ∀ k n, ((((σ.bump k).put σ.next (some (.rw (AV.agg [.int .i64 b, .int .i64 ln, .int .i64 ds]).cells)))).bump n).get σ.next = some (.rw [.int .i64 b, .int .i64 ln, .int .i64 ds]) := fun k n => by rw [Mem.get_bump, gS']; rfl
  have hR : right (b, ln, ds) ↔ (ln = 0 ∧ ds = 0 ∧ 0 ≤ b ∧ b ≤ 255) ∨ (ln ≠ 0 ∧ b = 0 ∧ 3 ≤ ln ∧ ln ≤ 258 ∧ 1 ≤ ds ∧ ds ≤ 32768) := by
    unfold right; dsimp only; split <;> omega
  obtain ⟨r, hr⟩ : ∃ r, decide (right (b, ln, ds)) = r := ⟨_, rfl⟩
  rw [hr]
  have fin : ∀ {x : Prop} [Decidable x], (x ↔ (ln = 0 ∧ ds = 0 ∧ 0 ≤ b ∧ b ≤ 255) ∨ (ln ≠ 0 ∧ b = 0 ∧ 3 ≤ ln ∧ ln ≤ 258 ∧ 1 ≤ ds ∧ ds ≤ 32768)) → AV.bool (decide x) = .bool r := fun h => by
    rw [← hr]; congr 1; rw [decide_eq_decide, h, hR]
  have finF : ¬ ((ln = 0 ∧ ds = 0 ∧ 0 ≤ b ∧ b ≤ 255) ∨ (ln ≠ 0 ∧ b = 0 ∧ 3 ≤ ln ∧ ln ≤ 258 ∧ 1 ≤ ds ∧ ds ≤ 32768)) → AV.bool false = .bool r := fun h => by
    rw [← hr]; congr 1; rw [eq_comm, decide_eq_false_iff_not, hR]; exact h
  repeat (first | refine To.go ?_ | with_reducible refine And.intro (by first | omega | exact ⟨rfl, rfl⟩) ?_ | ((with_reducible apply opt); (· (first | with_reducible assumption | rfl))) | ((with_reducible apply ldrw); (· (first | with_reducible assumption | (simp (disch := omega) only [go_sem, *]; try rfl))); (· (first | with_reducible assumption | rfl))) | ((with_reducible apply ldro); (· (first | with_reducible assumption | (simp (disch := omega) only [go_sem, *]; try rfl))); (· (first | with_reducible assumption | rfl))) | ((with_reducible apply st1); (· (first | with_reducible assumption | (simp (disch := omega) only [go_sem, *]; try rfl))); (· simp); (· rfl)) | with_reducible refine ifT rfl ?_ | with_reducible refine ifF (not_not_intro rfl) ?_ | with_reducible refine ifT (by omega) ?_ | with_reducible refine ifF (by omega) ?_)
  refine ifD (fun h => ?_) (fun h => ?_)
  · repeat (first | refine To.go ?_ | with_reducible refine And.intro (by first | omega | exact ⟨rfl, rfl⟩) ?_ | ((with_reducible apply opt); (· (first | with_reducible assumption | rfl))) | ((with_reducible apply ldrw); (· (first | with_reducible assumption | (simp (disch := omega) only [go_sem, *]; try rfl))); (· (first | with_reducible assumption | rfl))) | ((with_reducible apply ldro); (· (first | with_reducible assumption | (simp (disch := omega) only [go_sem, *]; try rfl))); (· (first | with_reducible assumption | rfl))) | ((with_reducible apply st1); (· (first | with_reducible assumption | (simp (disch := omega) only [go_sem, *]; try rfl))); (· simp); (· rfl)) | with_reducible refine ifT rfl ?_ | with_reducible refine ifF (not_not_intro rfl) ?_ | with_reducible refine ifT (by omega) ?_ | with_reducible refine ifF (by omega) ?_)
    refine ifD (fun h1 => ?_) (fun h1 => ?_)
    · repeat (first | refine To.go ?_ | with_reducible refine And.intro (by first | omega | exact ⟨rfl, rfl⟩) ?_ | ((with_reducible apply opt); (· (first | with_reducible assumption | rfl))) | ((with_reducible apply ldrw); (· (first | with_reducible assumption | (simp (disch := omega) only [go_sem, *]; try rfl))); (· (first | with_reducible assumption | rfl))) | ((with_reducible apply ldro); (· (first | with_reducible assumption | (simp (disch := omega) only [go_sem, *]; try rfl))); (· (first | with_reducible assumption | rfl))) | ((with_reducible apply st1); (· (first | with_reducible assumption | (simp (disch := omega) only [go_sem, *]; try rfl))); (· simp); (· rfl)) | with_reducible refine ifT rfl ?_ | with_reducible refine ifF (not_not_intro rfl) ?_ | with_reducible refine ifT (by omega) ?_ | with_reducible refine ifF (by omega) ?_)
      refine ifD (fun h2 => ?_) (fun h2 => ?_)
      · repeat (first | refine To.go ?_ | with_reducible refine And.intro (by first | omega | exact ⟨rfl, rfl⟩) ?_ | ((with_reducible apply opt); (· (first | with_reducible assumption | rfl))) | ((with_reducible apply ldrw); (· (first | with_reducible assumption | (simp (disch := omega) only [go_sem, *]; try rfl))); (· (first | with_reducible assumption | rfl))) | ((with_reducible apply ldro); (· (first | with_reducible assumption | (simp (disch := omega) only [go_sem, *]; try rfl))); (· (first | with_reducible assumption | rfl))) | ((with_reducible apply st1); (· (first | with_reducible assumption | (simp (disch := omega) only [go_sem, *]; try rfl))); (· simp); (· rfl)) | with_reducible refine ifT rfl ?_ | with_reducible refine ifF (not_not_intro rfl) ?_ | with_reducible refine ifT (by omega) ?_ | with_reducible refine ifF (by omega) ?_)
        exact ⟨fin (by omega), s1 _ _⟩
      · exact ⟨finF (by omega), s1 _ _⟩
    · exact ⟨finF (by omega), s1 _ _⟩
  · repeat (first | refine To.go ?_ | with_reducible refine And.intro (by first | omega | exact ⟨rfl, rfl⟩) ?_ | ((with_reducible apply opt); (· (first | with_reducible assumption | rfl))) | ((with_reducible apply ldrw); (· (first | with_reducible assumption | (simp (disch := omega) only [go_sem, *]; try rfl))); (· (first | with_reducible assumption | rfl))) | ((with_reducible apply ldro); (· (first | with_reducible assumption | (simp (disch := omega) only [go_sem, *]; try rfl))); (· (first | with_reducible assumption | rfl))) | ((with_reducible apply st1); (· (first | with_reducible assumption | (simp (disch := omega) only [go_sem, *]; try rfl))); (· simp); (· rfl)) | with_reducible refine ifT rfl ?_ | with_reducible refine ifF (not_not_intro rfl) ?_ | with_reducible refine ifT (by omega) ?_ | with_reducible refine ifF (by omega) ?_)
    refine ifD (fun h1 => ?_) (fun h1 => ?_)
    · repeat (first | refine To.go ?_ | with_reducible refine And.intro (by first | omega | exact ⟨rfl, rfl⟩) ?_ | ((with_reducible apply opt); (· (first | with_reducible assumption | rfl))) | ((with_reducible apply ldrw); (· (first | with_reducible assumption | (simp (disch := omega) only [go_sem, *]; try rfl))); (· (first | with_reducible assumption | rfl))) | ((with_reducible apply ldro); (· (first | with_reducible assumption | (simp (disch := omega) only [go_sem, *]; try rfl))); (· (first | with_reducible assumption | rfl))) | ((with_reducible apply st1); (· (first | with_reducible assumption | (simp (disch := omega) only [go_sem, *]; try rfl))); (· simp); (· rfl)) | with_reducible refine ifT rfl ?_ | with_reducible refine ifF (not_not_intro rfl) ?_ | with_reducible refine ifT (by omega) ?_ | with_reducible refine ifF (by omega) ?_)
      refine ifD (fun h2 => ?_) (fun h2 => ?_)
      · repeat (first | refine To.go ?_ | with_reducible refine And.intro (by first | omega | exact ⟨rfl, rfl⟩) ?_ | ((with_reducible apply opt); (· (first | with_reducible assumption | rfl))) | ((with_reducible apply ldrw); (· (first | with_reducible assumption | (simp (disch := omega) only [go_sem, *]; try rfl))); (· (first | with_reducible assumption | rfl))) | ((with_reducible apply ldro); (· (first | with_reducible assumption | (simp (disch := omega) only [go_sem, *]; try rfl))); (· (first | with_reducible assumption | rfl))) | ((with_reducible apply st1); (· (first | with_reducible assumption | (simp (disch := omega) only [go_sem, *]; try rfl))); (· simp); (· rfl)) | with_reducible refine ifT rfl ?_ | with_reducible refine ifF (not_not_intro rfl) ?_ | with_reducible refine ifT (by omega) ?_ | with_reducible refine ifF (by omega) ?_)
        refine ifD (fun h3 => ?_) (fun h3 => ?_)
        · repeat (first | refine To.go ?_ | with_reducible refine And.intro (by first | omega | exact ⟨rfl, rfl⟩) ?_ | ((with_reducible apply opt); (· (first | with_reducible assumption | rfl))) | ((with_reducible apply ldrw); (· (first | with_reducible assumption | (simp (disch := omega) only [go_sem, *]; try rfl))); (· (first | with_reducible assumption | rfl))) | ((with_reducible apply ldro); (· (first | with_reducible assumption | (simp (disch := omega) only [go_sem, *]; try rfl))); (· (first | with_reducible assumption | rfl))) | ((with_reducible apply st1); (· (first | with_reducible assumption | (simp (disch := omega) only [go_sem, *]; try rfl))); (· simp); (· rfl)) | with_reducible refine ifT rfl ?_ | with_reducible refine ifF (not_not_intro rfl) ?_ | with_reducible refine ifT (by omega) ?_ | with_reducible refine ifF (by omega) ?_)
          refine ifD (fun h4 => ?_) (fun h4 => ?_)
          · repeat (first | refine To.go ?_ | with_reducible refine And.intro (by first | omega | exact ⟨rfl, rfl⟩) ?_ | ((with_reducible apply opt); (· (first | with_reducible assumption | rfl))) | ((with_reducible apply ldrw); (· (first | with_reducible assumption | (simp (disch := omega) only [go_sem, *]; try rfl))); (· (first | with_reducible assumption | rfl))) | ((with_reducible apply ldro); (· (first | with_reducible assumption | (simp (disch := omega) only [go_sem, *]; try rfl))); (· (first | with_reducible assumption | rfl))) | ((with_reducible apply st1); (· (first | with_reducible assumption | (simp (disch := omega) only [go_sem, *]; try rfl))); (· simp); (· rfl)) | with_reducible refine ifT rfl ?_ | with_reducible refine ifF (not_not_intro rfl) ?_ | with_reducible refine ifT (by omega) ?_ | with_reducible refine ifF (by omega) ?_)
            exact ⟨fin (by omega), s1 _ _⟩
          · exact ⟨finF (by omega), s1 _ _⟩
        · exact ⟨finF (by omega), s1 _ _⟩
      · exact ⟨finF (by omega), s1 _ _⟩
    · exact ⟨finF (by omega), s1 _ _⟩
theorem right_bounds {t : Tok} (h : right t) : (t.2.1 = 0 ∧ 0 ≤ t.1 ∧ t.1 ≤ 255) ∨ (t.2.1 ≠ 0 ∧ 3 ≤ t.2.1 ∧ t.2.1 ≤ 258 ∧ 1 ≤ t.2.2 ∧ t.2.2 ≤ 32768) := by
  unfold right at h
  split at h <;> omega
theorem bl_push (out : List UInt8) {b : Int} (h : 0 ≤ b ∧ b ≤ 255) : bl out ++ [.int .u8 (b % 256)] = bl (out ++ [UInt8.ofNat b.toNat]) := by
  rw [← bl_append, ← bl_one_byte (by omega)]
  congr 3
  omega
theorem bl_last {out : List UInt8} {i : Nat} (h : i < out.length) : (bl out)[i]? = some (.int .u8 ((out[i]?.getD 0).toNat : Nat)) := by
  rw [bl_get h, List.getElem?_eq_getElem h]; rfl
theorem ref04_Expand {a : AV} {os : List Tok} {σ : Mem} (ha : RdS 3 σ a (tkl os) os.length) (hl : os.length ≤ 20000) :
    ACalls PG n_ref04_Expand [a] σ fun v σ' => v = .tup [.str (exp [] os).1, .int .i64 (exp [] os).2] ∧ σ.Same σ' := by
  refine ok_ref04_Expand fun live => ?_
  unfold F_ref04_Expand
  have hla := ha.lt live
  refine loop2 (fun (p : Nat × List UInt8) (v : AV) (i : Int) σ' => i = p.1 ∧ p.1 ≤ os.length ∧ p.2.length ≤ 258 * p.1 ∧ exp [] os = exp p.2 (os.drop p.1) ∧ Own 1 σ σ' v (bl p.2) p.2.length ∧ σ.Same σ') (fun p => os.length - p.1) (0, []) ⟨rfl, by omega, by simp, by simp, .nil 1 _ _, (Mem.Same.refl σ).bump _⟩ ?_
  rintro ⟨i, out⟩ v _ σ1 ⟨rfl, hi, hlen, hexp, own, s1⟩
  dsimp only at hi hlen hexp own ⊢
  unfold F_ref04_Expand_l1
  have ha1 := ha.keep fun b hb => s1.get b (hla b hb)
  refine ha1.len ?_
  refine ifD (fun hlt => ?_) (fun hge => ?_)
  · have hil : i < os.length := by omega
    rw [exp_drop hil] at hexp
    have hmem := List.getElem_mem hil
    obtain ⟨t, ht⟩ : ∃ t, os[i] = t := ⟨_, rfl⟩
    rw [ht] at hexp hmem
    refine join1 (fun (v' : AV) σ' => ∃ out' : List UInt8, out'.length ≤ 258 * (i + 1) ∧ exp [] os = exp out' (os.drop (i + 1)) ∧ Own 1 σ σ' v' (bl out') out'.length ∧ σ.Same σ') ?_ ?_
    · obtain ⟨p, c, rfl, hp, _⟩ := ha1.pos (by omega)
      repeat (first | refine To.go ?_ | with_reducible refine And.intro (by first | omega | exact ⟨rfl, rfl⟩) ?_ | ((with_reducible apply opt); (· (first | with_reducible assumption | rfl))) | ((with_reducible apply ldrw); (· (first | with_reducible assumption | (simp (disch := omega) only [go_sem, *]; try rfl))); (· (first | with_reducible assumption | rfl))) | ((with_reducible apply ldro); (· (first | with_reducible assumption | (simp (disch := omega) only [go_sem, *]; try rfl))); (· (first | with_reducible assumption | rfl))) | ((with_reducible apply st1); (· (first | with_reducible assumption | (simp (disch := omega) only [go_sem, *]; try rfl))); (· simp); (· rfl)) | with_reducible refine ifT rfl ?_ | with_reducible refine ifF (not_not_intro rfl) ?_ | with_reducible refine ifT (by omega) ?_ | with_reducible refine ifF (by omega) ?_)
      refine ldn_tok hp hil ?_
      rw [ht]
      repeat (first | refine To.go ?_ | with_reducible refine And.intro (by first | omega | exact ⟨rfl, rfl⟩) ?_ | ((with_reducible apply opt); (· (first | with_reducible assumption | rfl))) | ((with_reducible apply ldrw); (· (first | with_reducible assumption | (simp (disch := omega) only [go_sem, *]; try rfl))); (· (first | with_reducible assumption | rfl))) | ((with_reducible apply ldro); (· (first | with_reducible assumption | (simp (disch := omega) only [go_sem, *]; try rfl))); (· (first | with_reducible assumption | rfl))) | ((with_reducible apply st1); (· (first | with_reducible assumption | (simp (disch := omega) only [go_sem, *]; try rfl))); (· simp); (· rfl)) | with_reducible refine ifT rfl ?_ | with_reducible refine ifF (not_not_intro rfl) ?_ | with_reducible refine ifT (by omega) ?_ | with_reducible refine ifF (by omega) ?_)
      refine stn gS' (by simp) rfl rfl ?_
      obtain ⟨σ2, h2⟩ : ∃ σ2, σ2 = ((σ1.bump 10).put (σ1.next + 8) (some (.rw [.int .i64 0, .int .i64 0, .int .i64 0]))).put (σ1.next + 8) (some (.rw (setAt [.int .i64 0, .int .i64 0, .int .i64 0] 0 (tokC t)))) := ⟨_, rfl⟩
      have hn2 : σ2.next = σ1.next + 10 := by rw [h2]; rfl
      have e2 : σ2.get (σ1.next + 8) = some (.rw (tokC t)) := by rw [h2, gS']; rfl
      have s12 : σ1.Same σ2 := by rw [h2]; repeat (with_reducible first | assumption | exact Mem.Only.refl _ _ | exact Mem.Same.refl _ | refine Mem.Only.bump ?_ _ | refine Mem.Only.put ?_ (by simp) _ | refine Mem.Only.put ?_ (.inr (by first | omega | (simp only [Mem.next_bump, Mem.next_put]; omega))) _ | refine Mem.Same.bump ?_ _ | refine Mem.Same.put ?_ (by first | omega | (simp only [Mem.next_bump, Mem.next_put]; omega)) _)
      rw [← h2]
      refine ldnq e2 rfl (by simp [tokC]) ?_
      rw [List.drop_zero, show (tokC t).take 3 = tokC t from rfl]
      refine callW_of (ref04_Right _) ?_
      rintro _ σ3 ⟨rfl, s3⟩
      replace s3 := s3.ob
      have hn3 := s3.next
      have e3 := s3.keep e2 (by omega)
      have s13 := s12.trans s3
      have own3 := own.same s13
      have s03 := s1.trans s13
      obtain ⟨q, hq⟩ : ∃ q, σ1.next + 8 = q := ⟨_, rfl⟩
      rw [hq] at e3 ⊢
      have hqv : q ∉ blkOf v := fun h => by have := (own.2 _ h).2; omega
      have hqn : q < σ3.next := by omega
      have hq0 : σ.next ≤ q := by have := s1.next; omega
      clear h2 e2
      repeat (first | refine To.go ?_ | with_reducible refine And.intro (by first | omega | exact ⟨rfl, rfl⟩) ?_ | ((with_reducible apply opt); (· (first | with_reducible assumption | rfl))) | ((with_reducible apply ldrw); (· (first | with_reducible assumption | (simp (disch := omega) only [go_sem, *]; try rfl))); (· (first | with_reducible assumption | rfl))) | ((with_reducible apply ldro); (· (first | with_reducible assumption | (simp (disch := omega) only [go_sem, *]; try rfl))); (· (first | with_reducible assumption | rfl))) | ((with_reducible apply st1); (· (first | with_reducible assumption | (simp (disch := omega) only [go_sem, *]; try rfl))); (· simp); (· rfl)) | with_reducible refine ifT rfl ?_ | with_reducible refine ifF (not_not_intro rfl) ?_ | with_reducible refine ifT (by omega) ?_ | with_reducible refine ifF (by omega) ?_)
      by_cases hr : right t
      · rw [decide_eq_true hr]
        have hrb := right_bounds hr
        rw [if_pos hr] at hexp
        obtain ⟨b, ln, ds⟩ := t
        unfold tokC at e3
        dsimp only at hexp hrb
        repeat (first | refine To.go ?_ | with_reducible refine And.intro (by first | omega | exact ⟨rfl, rfl⟩) ?_ | ((with_reducible apply opt); (· (first | with_reducible assumption | rfl))) | ((with_reducible apply ldrw); (· (first | with_reducible assumption | (simp (disch := omega) only [go_sem, *]; try rfl))); (· (first | with_reducible assumption | rfl))) | ((with_reducible apply ldro); (· (first | with_reducible assumption | (simp (disch := omega) only [go_sem, *]; try rfl))); (· (first | with_reducible assumption | rfl))) | ((with_reducible apply st1); (· (first | with_reducible assumption | (simp (disch := omega) only [go_sem, *]; try rfl))); (· simp); (· rfl)) | with_reducible refine ifT rfl ?_ | with_reducible refine ifF (not_not_intro rfl) ?_ | with_reducible refine ifT (by omega) ?_ | with_reducible refine ifF (by omega) ?_)
        refine ifD (fun h0 => ?_) (fun h0 => ?_)
        · rw [if_pos h0] at hexp
          repeat (first | refine To.go ?_ | with_reducible refine And.intro (by first | omega | exact ⟨rfl, rfl⟩) ?_ | ((with_reducible apply opt); (· (first | with_reducible assumption | rfl))) | ((with_reducible apply ldrw); (· (first | with_reducible assumption | (simp (disch := omega) only [go_sem, *]; try rfl))); (· (first | with_reducible assumption | rfl))) | ((with_reducible apply ldro); (· (first | with_reducible assumption | (simp (disch := omega) only [go_sem, *]; try rfl))); (· (first | with_reducible assumption | rfl))) | ((with_reducible apply st1); (· (first | with_reducible assumption | (simp (disch := omega) only [go_sem, *]; try rfl))); (· simp); (· rfl)) | with_reducible refine ifT rfl ?_ | with_reducible refine ifF (not_not_intro rfl) ?_ | with_reducible refine ifT (by omega) ?_ | with_reducible refine ifF (by omega) ?_)
          refine own3.push (m := 1) s03 rfl (by omega) (by omega) (by omega) rfl rfl (bl_one _) (by omega) ?_ (by simp only [Mem.next_put, Mem.next_bump]; omega)
          intro v' σ4 own4 s4 _ _ _
          rw [bl_push out (by omega)] at own4
          exact ⟨_, by rw [List.length_append]; simp; omega, hexp, by rw [List.length_append]; exact own4, s4⟩
        · rw [if_neg h0] at hexp
          repeat (first | refine To.go ?_ | with_reducible refine And.intro (by first | omega | exact ⟨rfl, rfl⟩) ?_ | ((with_reducible apply opt); (· (first | with_reducible assumption | rfl))) | ((with_reducible apply ldrw); (· (first | with_reducible assumption | (simp (disch := omega) only [go_sem, *]; try rfl))); (· (first | with_reducible assumption | rfl))) | ((with_reducible apply ldro); (· (first | with_reducible assumption | (simp (disch := omega) only [go_sem, *]; try rfl))); (· (first | with_reducible assumption | rfl))) | ((with_reducible apply st1); (· (first | with_reducible assumption | (simp (disch := omega) only [go_sem, *]; try rfl))); (· simp); (· rfl)) | with_reducible refine ifT rfl ?_ | with_reducible refine ifF (not_not_intro rfl) ?_ | with_reducible refine ifT (by omega) ?_ | with_reducible refine ifF (by omega) ?_)
          refine own3.1.len ?_
          refine ifD (fun hfar => ?_) (fun hfar => ?_)
          · rw [if_pos hfar] at hexp
            rw [hexp]
            exact ⟨rfl, s03.bump _⟩
          · rw [if_neg hfar] at hexp
            obtain ⟨n, rfl⟩ := int_nat (show 0 ≤ ln by omega)
            obtain ⟨d, rfl⟩ := int_nat (show 0 ≤ ds by omega)
            rw [Int.toNat_natCast, Int.toNat_natCast] at hexp
            refine loop2 (fun (k : Nat) (v' : AV) (x : Int) σ' => x = k ∧ k ≤ n ∧ Own 1 σ σ' v' (bl (copyN out d k)) (out.length + k) ∧ σ.Same σ' ∧ q < σ'.next ∧ q ∉ blkOf v' ∧ σ'.get q = some (.rw [.int .i64 b, .int .i64 (n : Nat), .int .i64 (d : Nat)])) (fun k => n - k) 0 ⟨rfl, by omega, own3.same ((Mem.Same.refl σ3).bump _), s03.bump _, by simp only [Mem.next_bump]; omega, hqv, e3⟩ ?_
            rintro k v' _ σ4 ⟨rfl, hk, own4, s4, hq4, hqv4, e4⟩
            unfold F_ref04_Expand_l2
            rw [hq]
            repeat (first | refine To.go ?_ | with_reducible refine And.intro (by first | omega | exact ⟨rfl, rfl⟩) ?_ | ((with_reducible apply opt); (· (first | with_reducible assumption | rfl))) | ((with_reducible apply ldrw); (· (first | with_reducible assumption | (simp (disch := omega) only [go_sem, *]; try rfl))); (· (first | with_reducible assumption | rfl))) | ((with_reducible apply ldro); (· (first | with_reducible assumption | (simp (disch := omega) only [go_sem, *]; try rfl))); (· (first | with_reducible assumption | rfl))) | ((with_reducible apply st1); (· (first | with_reducible assumption | (simp (disch := omega) only [go_sem, *]; try rfl))); (· simp); (· rfl)) | with_reducible refine ifT rfl ?_ | with_reducible refine ifF (not_not_intro rfl) ?_ | with_reducible refine ifT (by omega) ?_ | with_reducible refine ifF (by omega) ?_)
            refine ifD (fun hkn => ?_) (fun hkn => ?_)
            · refine own4.1.len ?_
              repeat (first | refine To.go ?_ | with_reducible refine And.intro (by first | omega | exact ⟨rfl, rfl⟩) ?_ | ((with_reducible apply opt); (· (first | with_reducible assumption | rfl))) | ((with_reducible apply ldrw); (· (first | with_reducible assumption | (simp (disch := omega) only [go_sem, *]; try rfl))); (· (first | with_reducible assumption | rfl))) | ((with_reducible apply ldro); (· (first | with_reducible assumption | (simp (disch := omega) only [go_sem, *]; try rfl))); (· (first | with_reducible assumption | rfl))) | ((with_reducible apply st1); (· (first | with_reducible assumption | (simp (disch := omega) only [go_sem, *]; try rfl))); (· simp); (· rfl)) | with_reducible refine ifT rfl ?_ | with_reducible refine ifF (not_not_intro rfl) ?_ | with_reducible refine ifT (by omega) ?_ | with_reducible refine ifF (by omega) ?_)
              have hclen := copyN_len out d k
              have hcs : copyN out d (k + 1) = copyN out d k ++ [(copyN out d k)[(copyN out d k).length - d]?.getD 0] := rfl
              obtain ⟨y, hy⟩ : ∃ y, copyN out d k = y := ⟨_, rfl⟩
              rw [hy] at own4 hclen hcs
              rw [hclen] at hcs
              have hlast := bl_last (out := y) (i := out.length + k - d) (by omega)
              obtain ⟨z, hz⟩ : ∃ z, y[out.length + k - d]?.getD 0 = z := ⟨_, rfl⟩
              rw [hz] at hcs hlast
              obtain ⟨u, rfl, hu, _⟩ := own4.1.sl (by omega)
              have hun := own4.2 u (by simp [blkOf])
              rw [show (((out.length + k : Nat) : Int) - (d : Int)) = ((out.length + k - d : Nat) : Int) from by omega]
              repeat (first | refine To.go ?_ | with_reducible refine And.intro (by first | omega | exact ⟨rfl, rfl⟩) ?_ | ((with_reducible apply opt); (· (first | with_reducible assumption | rfl))) | ((with_reducible apply ldrw); (· (first | with_reducible assumption | (simp (disch := omega) only [go_sem, *]; try rfl))); (· (first | with_reducible assumption | rfl))) | ((with_reducible apply ldro); (· (first | with_reducible assumption | (simp (disch := omega) only [go_sem, *]; try rfl))); (· (first | with_reducible assumption | rfl))) | ((with_reducible apply st1); (· (first | with_reducible assumption | (simp (disch := omega) only [go_sem, *]; try rfl))); (· simp); (· rfl)) | with_reducible refine ifT rfl ?_ | with_reducible refine ifF (not_not_intro rfl) ?_ | with_reducible refine ifT (by omega) ?_ | with_reducible refine ifF (by omega) ?_)
              refine own4.push (m := 1) s4 rfl (by omega) (by omega) (by omega) rfl rfl (bl_one _) (by omega) ?_ (by simp only [Mem.next_put, Mem.next_bump]; omega)
              intro v5 σ5 own5 s5 hn5 o5 hb5
              have o5n := o5.next
              repeat (first | refine To.go ?_ | with_reducible refine And.intro (by first | omega | exact ⟨rfl, rfl⟩) ?_ | ((with_reducible apply opt); (· (first | with_reducible assumption | rfl))) | ((with_reducible apply ldrw); (· (first | with_reducible assumption | (simp (disch := omega) only [go_sem, *]; try rfl))); (· (first | with_reducible assumption | rfl))) | ((with_reducible apply ldro); (· (first | with_reducible assumption | (simp (disch := omega) only [go_sem, *]; try rfl))); (· (first | with_reducible assumption | rfl))) | ((with_reducible apply st1); (· (first | with_reducible assumption | (simp (disch := omega) only [go_sem, *]; try rfl))); (· simp); (· rfl)) | with_reducible refine ifT rfl ?_ | with_reducible refine ifF (not_not_intro rfl) ?_ | with_reducible refine ifT (by omega) ?_ | with_reducible refine ifF (by omega) ?_)
              refine again ⟨k + 1, ⟨by omega, by omega, ?_, s5.bump _, by simp only [Mem.next_bump]; omega, fun h => ?_, ?_⟩, by omega⟩
              · rw [hcs, ← bl_append]
                exact own5.same ((Mem.Same.refl σ5).bump 3)
              · rcases hb5 q h with h | h
                · exact hqv4 h
                · omega
              · exact o5.keep e4 hq4 hqv4
            · obtain rfl : k = n := by omega
              refine ⟨_, ?_, hexp, ?_, s4.bump _⟩
              · rw [copyN_len]; omega
              · rw [copyN_len]; exact own4.same ((Mem.Same.refl σ4).bump _)
      · rw [decide_eq_false hr]
        rw [if_neg hr] at hexp
        rw [hexp]
        repeat (first | refine To.go ?_ | with_reducible refine And.intro (by first | omega | exact ⟨rfl, rfl⟩) ?_ | ((with_reducible apply opt); (· (first | with_reducible assumption | rfl))) | ((with_reducible apply ldrw); (· (first | with_reducible assumption | (simp (disch := omega) only [go_sem, *]; try rfl))); (· (first | with_reducible assumption | rfl))) | ((with_reducible apply ldro); (· (first | with_reducible assumption | (simp (disch := omega) only [go_sem, *]; try rfl))); (· (first | with_reducible assumption | rfl))) | ((with_reducible apply st1); (· (first | with_reducible assumption | (simp (disch := omega) only [go_sem, *]; try rfl))); (· simp); (· rfl)) | with_reducible refine ifT rfl ?_ | with_reducible refine ifF (not_not_intro rfl) ?_ | with_reducible refine ifT (by omega) ?_ | with_reducible refine ifF (by omega) ?_)
        exact ⟨rfl, s03.bump _⟩
    · rintro v' σ2 ⟨out', h1, h2, h3, h4⟩
      unfold F_ref04_Expand_j1
      repeat (first | refine To.go ?_ | with_reducible refine And.intro (by first | omega | exact ⟨rfl, rfl⟩) ?_ | ((with_reducible apply opt); (· (first | with_reducible assumption | rfl))) | ((with_reducible apply ldrw); (· (first | with_reducible assumption | (simp (disch := omega) only [go_sem, *]; try rfl))); (· (first | with_reducible assumption | rfl))) | ((with_reducible apply ldro); (· (first | with_reducible assumption | (simp (disch := omega) only [go_sem, *]; try rfl))); (· (first | with_reducible assumption | rfl))) | ((with_reducible apply st1); (· (first | with_reducible assumption | (simp (disch := omega) only [go_sem, *]; try rfl))); (· simp); (· rfl)) | with_reducible refine ifT rfl ?_ | with_reducible refine ifF (not_not_intro rfl) ?_ | with_reducible refine ifT (by omega) ?_ | with_reducible refine ifF (by omega) ?_)
      exact again ⟨(i + 1, out'), ⟨by dsimp only; omega, by dsimp only; omega, h1, h2, h3.same ((Mem.Same.refl σ2).bump _), h4.bump _⟩, by dsimp only; omega⟩
  · rw [exp_end (by omega)] at hexp
    rw [hexp]
    refine OwnS.bstr (own.1.keep (σ' := σ1.bump 8) fun b _ => rfl) ?_
    exact ⟨rfl, s1.bump _⟩
end Go.Vit
