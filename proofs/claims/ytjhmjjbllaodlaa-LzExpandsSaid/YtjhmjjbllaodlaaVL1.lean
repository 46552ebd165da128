/- The document's tokens; whether two lists of tokens are the same. -/
import Derived.Test.YtjhmjjbllaodlaaVC1
import Derived.Test.YtjhmjjbllaodlaaVsK
set_option linter.unusedVariables false
set_option linter.unusedSimpArgs false
set_option linter.unusedSimpArgs false
set_option maxRecDepth 20000
namespace Go.Vit
open Go.Proofs
def tks (s : ByteArray) (k : Nat) : List AV := (toks s k).flatMap tokC
theorem tks_succ (s : ByteArray) (k : Nat) : tks s (k + 1) = tks s k ++ tokC (tkAt s k) := by simp [tks, toks_succ]
theorem tks_len (s : ByteArray) (k : Nat) : (tks s k).length = k * 3 := by unfold tks; rw [flat_length tokC_len, toks_len]
/-- A list that is owned, whose memory lies behind a place. -/
def Own (k : Nat) (σ σ' : Mem) (v : AV) (cs : List AV) (n : Nat) : Prop := OwnS k σ' v cs n ∧ ∀ b ∈ blkOf v, σ.next ≤ b ∧ b < σ'.next
theorem Own.same {k n : Nat} {σ σ1 σ2 : Mem} {v : AV} {cs : List AV} (h : Own k σ σ1 v cs n) (s : σ1.Same σ2) : Own k σ σ2 v cs n :=
  ⟨h.1.keep fun b hb => s.get b (h.2 b hb).2, fun b hb => ⟨(h.2 b hb).1, Nat.lt_of_lt_of_le (h.2 b hb).2 s.next⟩⟩
theorem Own.only {k n : Nat} {σ σ1 σ2 : Mem} {v : AV} {cs : List AV} {l : List Nat} (h : Own k σ σ1 v cs n) (s : Mem.Only l σ1 σ2) (hl : ∀ b ∈ blkOf v, b ∉ l) : Own k σ σ2 v cs n :=
  ⟨h.1.keep fun b hb => s.get b (h.2 b hb).2 (hl b hb), fun b hb => ⟨(h.2 b hb).1, Nat.lt_of_lt_of_le (h.2 b hb).2 s.next⟩⟩
theorem Own.nil (k : Nat) (σ σ' : Mem) : Own k σ σ' .nils [] 0 := ⟨.nil k σ', fun b hb => by simp [blkOf] at hb⟩
/-- A new cell block is made, and its cells are put behind the list. -/
theorem Own.push {k bytes id nb n m j : Nat} {σ σ1 : Mem} {v : AV} {cs c : List AV} {K : AV → Mem → Prop} (h : Own k σ σ1 v cs n) (s : σ.Same σ1) {σ2 : Mem} (hσ2 : σ2 = (σ1.bump j).put nb (some (.rw c))) (hnb : σ1.next ≤ nb) (hid : nb < id) (hm : m ≠ 0) (hc : c.length = m * k)
    (h1 : c.all AV.one = true) (h2 : cs.all AV.one = true) (hr : (n + m) * bytes ≤ 140737488355328 ∧ n + m ≤ 9223372036854775806) {c' : Cap}
    (hk : ∀ v' σ', Own k σ σ' v' (cs ++ c) (n + m) → σ.Same σ' → id < σ'.next → Mem.Only (blkOf v) σ1 σ' → (∀ b ∈ blkOf v', b ∈ blkOf v ∨ b = id) → K v' σ')(hlt : id < σ2.next) : apW k bytes id σ2 v (.slice nb 0 m c') K := by
  subst hσ2
  refine OwnS.append (n := n) (m := m) (cs := cs) (c := c) (h.1.keep fun b hb => by rw [Mem.get_put_ne _ (by have := (h.2 b hb).2; omega)]; rfl) (fun K hK => src_new (Mem.get_put_self _ _ _) hc rfl K hK) (fun h => absurd h hm) hc h1 h2 hr (fun hb => by have := (h.2 _ hb).2; omega) ?_
  intro v' σ3 own3 hn3 hg3 hb3
  rw [Mem.next_put, Mem.next_bump] at hn3 hlt
  have o : Mem.Only (blkOf v) σ1 σ3 := ⟨by omega, fun b hb hn => by rw [hg3 b hn (by omega), Mem.get_put_ne _ (by omega)]; rfl⟩
  refine hk v' σ3 ⟨own3, fun b hb => ?_⟩ ⟨Nat.le_trans s.next o.next, fun b hb => ?_⟩ (by omega) o hb3
  · rcases hb3 b hb with h' | rfl
    · have := h.2 b h'; omega
    · have := s.next; omega
  · rw [o.get b (Nat.lt_of_lt_of_le hb s.next) fun h' => by have := h.2 b h'; omega]
    exact s.get b hb
theorem ref04_Tokens (s : ByteArray) (hs : s.size ≤ 20000) (σ : Mem) :
    ACalls PG n_ref04_Tokens [.str s] σ fun v σ' => ∃ k, Done s k ∧ Own 3 σ σ' v (tks s k) k ∧ σ.Same σ' := by
  refine ok_ref04_Tokens fun _ => ?_
  unfold F_ref04_Tokens
  refine loop2 (fun (k : Nat) (v : AV) (i : Int) σ' => i = pos s k ∧ (∀ j < k, pos s j < s.size) ∧ Own 3 σ σ' v (tks s k) k ∧ σ.Same σ') (fun k => s.size - pos s k) 0 ⟨rfl, by simp, .nil 3 _ _, (Mem.Same.refl σ).bump _⟩ ?_
  rintro k v _ σ1 ⟨rfl, hk, own, s1⟩
  unfold F_ref04_Tokens_l1
  have hle := pos_le hk
  have hge := pos_ge hk
  obtain ⟨i, hi⟩ : ∃ i, pos s k = i := ⟨_, rfl⟩
  have htk : tkAt s k = (tk s i).1 := by rw [← hi]; rfl
  have hpos : pos s (k + 1) = (tk s i).2 := by rw [← hi]; rfl
  rw [hi] at hle hge ⊢
  refine ifD (fun hlt => ?_) (fun hge => ?_)
  · have hlt' : i < s.size := by omega
    refine join2 (fun (b f : Int) σ' => b = ((best s i).1 : Nat) ∧ f = ((best s i).2 : Nat) ∧ σ1.Same σ') ?_ ?_
    · obtain ⟨D, hD⟩ : ∃ D, min 512 i = D := ⟨_, rfl⟩
      rw [best, hD]
      refine loop3 (fun (e : Nat) (b f d : Int) σ' => d = ((e + 1 : Nat) : Int) ∧ e ≤ D ∧ b = ((rb s i e).1 : Nat) ∧ f = ((rb s i e).2 : Nat) ∧ σ1.Same σ') (fun e => D - e) 0 ⟨rfl, by omega, rfl, rfl, (Mem.Same.refl σ1).bump _⟩ ?_
      rintro e b f _ σ2 ⟨rfl, he, hb, hf, s2⟩
      unfold F_ref04_Tokens_l2
      refine ifD (fun h512 => ?_) (fun h512 => ?_)
      · refine ifD (fun hdi => ?_) (fun hdi => ?_)
        · have hm := ml_le s i (e + 1)
          have hrb := rb_le s i e
          have hstep : rb s i (e + 1) = if (rb s i e).1 < ml s i (e + 1) then (ml s i (e + 1), e + 1) else rb s i e := rfl
          have hml : mlF s i (e + 1) (258 - 0) 0 = ml s i (e + 1) := rfl
          have hmlle := ml_le s i (e + 1)
          obtain ⟨m, hme⟩ : ∃ m, ml s i (e + 1) = m := ⟨_, rfl⟩
          rw [hme] at hm hstep hml
          refine join1 (fun (n : Int) σ' => n = (m : Nat) ∧ σ1.Same σ') ?_ ?_
          · refine loop1 (fun (n : Nat) (x : Int) σ' => x = n ∧ n ≤ 258 ∧ mlF s i (e + 1) (258 - n) n = m ∧ σ1.Same σ') (fun n => 258 - n) 0 ⟨rfl, by omega, hml, s2.bump _⟩ ?_
            rintro n _ σ3 ⟨rfl, hn, hmn, s3⟩
            unfold F_ref04_Tokens_l3
            have stop : (n < 258 → ¬ agr s i (e + 1) n) → m = n := fun h => by rw [← hmn]; exact mlF_stop h hn
            refine ifD (fun hn2 => ?_) (fun hn2 => ?_)
            · repeat (first | refine To.go ?_ | with_reducible refine And.intro (by first | omega | exact ⟨rfl, rfl⟩) ?_ | ((with_reducible apply opt); (· (first | with_reducible assumption | rfl))) | ((with_reducible apply ldrw); (· (first | with_reducible assumption | (simp (disch := omega) only [go_sem, *]; try rfl))); (· (first | with_reducible assumption | rfl))) | ((with_reducible apply ldro); (· (first | with_reducible assumption | (simp (disch := omega) only [go_sem, *]; try rfl))); (· (first | with_reducible assumption | rfl))) | ((with_reducible apply st1); (· (first | with_reducible assumption | (simp (disch := omega) only [go_sem, *]; try rfl))); (· simp); (· rfl)) | with_reducible refine ifT rfl ?_ | with_reducible refine ifF (not_not_intro rfl) ?_ | with_reducible refine ifT (by omega) ?_ | with_reducible refine ifF (by omega) ?_)
              refine ifD (fun hsz => ?_) (fun hsz => ?_)
              · repeat (first | refine To.go ?_ | with_reducible refine And.intro (by first | omega | exact ⟨rfl, rfl⟩) ?_ | ((with_reducible apply opt); (· (first | with_reducible assumption | rfl))) | ((with_reducible apply ldrw); (· (first | with_reducible assumption | (simp (disch := omega) only [go_sem, *]; try rfl))); (· (first | with_reducible assumption | rfl))) | ((with_reducible apply ldro); (· (first | with_reducible assumption | (simp (disch := omega) only [go_sem, *]; try rfl))); (· (first | with_reducible assumption | rfl))) | ((with_reducible apply st1); (· (first | with_reducible assumption | (simp (disch := omega) only [go_sem, *]; try rfl))); (· simp); (· rfl)) | with_reducible refine ifT rfl ?_ | with_reducible refine ifF (not_not_intro rfl) ?_ | with_reducible refine ifT (by omega) ?_ | with_reducible refine ifF (by omega) ?_)
                rw [show ((i : Int) + n).toNat = i + n from by omega, show ((i : Int) + n - ((e + 1 : Nat) : Int)).toNat = i + n - (e + 1) from by omega]
                refine ifD (fun heq => ?_) (fun heq => ?_)
                · repeat (first | refine To.go ?_ | with_reducible refine And.intro (by first | omega | exact ⟨rfl, rfl⟩) ?_ | ((with_reducible apply opt); (· (first | with_reducible assumption | rfl))) | ((with_reducible apply ldrw); (· (first | with_reducible assumption | (simp (disch := omega) only [go_sem, *]; try rfl))); (· (first | with_reducible assumption | rfl))) | ((with_reducible apply ldro); (· (first | with_reducible assumption | (simp (disch := omega) only [go_sem, *]; try rfl))); (· (first | with_reducible assumption | rfl))) | ((with_reducible apply st1); (· (first | with_reducible assumption | (simp (disch := omega) only [go_sem, *]; try rfl))); (· simp); (· rfl)) | with_reducible refine ifT rfl ?_ | with_reducible refine ifF (not_not_intro rfl) ?_ | with_reducible refine ifT (by omega) ?_ | with_reducible refine ifF (by omega) ?_)
                  refine again ⟨n + 1, ⟨by omega, by omega, ?_, s3.bump _⟩, by omega⟩
                  rw [← hmn]
                  exact (mlF_step (by omega) ⟨by omega, by omega⟩).symm
                · exact ⟨by rw [stop fun _ h => heq (by rw [h.2])], s3.bump _⟩
              · exact ⟨by rw [stop fun _ h => by have := h.1; omega], s3.bump _⟩
            · exact ⟨by rw [stop fun h => by omega], s3.bump _⟩
          · rintro _ σ3 ⟨rfl, s3⟩
            unfold F_ref04_Tokens_j3
            refine join2 (fun (b' f' : Int) σ' => b' = ((rb s i (e + 1)).1 : Nat) ∧ f' = ((rb s i (e + 1)).2 : Nat) ∧ σ1.Same σ') ?_ ?_
            · refine ifD (fun hbm => ?_) (fun hbm => ?_)
              · rw [hstep, if_pos (by omega)]
                exact ⟨rfl, rfl, s3.bump _⟩
              · rw [hstep, if_neg (by omega)]
                exact ⟨hb, hf, s3.bump _⟩
            · rintro b' f' σ4 ⟨hb', hf', s4⟩
              unfold F_ref04_Tokens_j4
              repeat (first | refine To.go ?_ | with_reducible refine And.intro (by first | omega | exact ⟨rfl, rfl⟩) ?_ | ((with_reducible apply opt); (· (first | with_reducible assumption | rfl))) | ((with_reducible apply ldrw); (· (first | with_reducible assumption | (simp (disch := omega) only [go_sem, *]; try rfl))); (· (first | with_reducible assumption | rfl))) | ((with_reducible apply ldro); (· (first | with_reducible assumption | (simp (disch := omega) only [go_sem, *]; try rfl))); (· (first | with_reducible assumption | rfl))) | ((with_reducible apply st1); (· (first | with_reducible assumption | (simp (disch := omega) only [go_sem, *]; try rfl))); (· simp); (· rfl)) | with_reducible refine ifT rfl ?_ | with_reducible refine ifF (not_not_intro rfl) ?_ | with_reducible refine ifT (by omega) ?_ | with_reducible refine ifF (by omega) ?_)
              exact again ⟨e + 1, ⟨by omega, by omega, hb', hf', s4.bump _⟩, by omega⟩
        · obtain rfl : e = D := by omega
          exact ⟨hb, hf, s2.bump _⟩
      · obtain rfl : e = D := by omega
        exact ⟨hb, hf, s2.bump _⟩
    · rintro _ _ σ2 ⟨rfl, rfl, s2⟩
      unfold F_ref04_Tokens_j1
      have hbs := best_size (s := s) (i := i) hle
      have hrb := rb_le s i (min 512 i)
      have htk' : tk s i = if 3 ≤ (best s i).1 then ((0, ((best s i).1 : Int), ((best s i).2 : Int)), i + (best s i).1) else ((((byteAt s i : Nat) : Int), 0, 0), i + 1) := rfl
      rw [show rb s i (min 512 i) = best s i from rfl] at hrb
      have hbyte := byteAt_lt s i
      obtain ⟨p, hp⟩ : ∃ p, best s i = p := ⟨_, rfl⟩
      rw [hp] at hbs hrb htk' ⊢
      obtain ⟨b, f⟩ := p
      dsimp only at hbs hrb htk' ⊢
      have hk' : ∀ j < k + 1, pos s j < s.size := fun j hj => by
        rcases Nat.eq_or_lt_of_le (Nat.le_of_lt_succ hj) with rfl | hj
        · omega
        · exact hk j hj
      have own2 := own.same s2
      have s02 := s1.trans s2
      refine join2 (fun (v' : AV) (i' : Int) σ' => i' = pos s (k + 1) ∧ Own 3 σ σ' v' (tks s (k + 1)) (k + 1) ∧ σ.Same σ') ?_ ?_
      · refine ifD (fun h3 => ?_) (fun h3 => ?_)
        · rw [if_pos (by omega)] at htk'
          repeat (first | refine To.go ?_ | with_reducible refine And.intro (by first | omega | exact ⟨rfl, rfl⟩) ?_ | ((with_reducible apply opt); (· (first | with_reducible assumption | rfl))) | ((with_reducible apply ldrw); (· (first | with_reducible assumption | (simp (disch := omega) only [go_sem, *]; try rfl))); (· (first | with_reducible assumption | rfl))) | ((with_reducible apply ldro); (· (first | with_reducible assumption | (simp (disch := omega) only [go_sem, *]; try rfl))); (· (first | with_reducible assumption | rfl))) | ((with_reducible apply st1); (· (first | with_reducible assumption | (simp (disch := omega) only [go_sem, *]; try rfl))); (· simp); (· rfl)) | with_reducible refine ifT rfl ?_ | with_reducible refine ifF (not_not_intro rfl) ?_ | with_reducible refine ifT (by omega) ?_ | with_reducible refine ifF (by omega) ?_)
          refine own2.push (m := 1) s02 rfl (by omega) (by omega) (by omega) rfl rfl (tokC_one _) (by omega) ?_ (by simp only [Mem.next_put, Mem.next_bump]; omega)
          intro v' σ3 own3 s3 hn3 _ _
          repeat (first | refine To.go ?_ | with_reducible refine And.intro (by first | omega | exact ⟨rfl, rfl⟩) ?_ | ((with_reducible apply opt); (· (first | with_reducible assumption | rfl))) | ((with_reducible apply ldrw); (· (first | with_reducible assumption | (simp (disch := omega) only [go_sem, *]; try rfl))); (· (first | with_reducible assumption | rfl))) | ((with_reducible apply ldro); (· (first | with_reducible assumption | (simp (disch := omega) only [go_sem, *]; try rfl))); (· (first | with_reducible assumption | rfl))) | ((with_reducible apply st1); (· (first | with_reducible assumption | (simp (disch := omega) only [go_sem, *]; try rfl))); (· simp); (· rfl)) | with_reducible refine ifT rfl ?_ | with_reducible refine ifF (not_not_intro rfl) ?_ | with_reducible refine ifT (by omega) ?_ | with_reducible refine ifF (by omega) ?_)
          refine ⟨by rw [hpos, htk']; omega, ?_, s3.bump _⟩
          rw [tks_succ, htk, htk']
          exact own3.same ((Mem.Same.refl σ3).bump 4)
        · rw [if_neg (by omega)] at htk'
          repeat (first | refine To.go ?_ | with_reducible refine And.intro (by first | omega | exact ⟨rfl, rfl⟩) ?_ | ((with_reducible apply opt); (· (first | with_reducible assumption | rfl))) | ((with_reducible apply ldrw); (· (first | with_reducible assumption | (simp (disch := omega) only [go_sem, *]; try rfl))); (· (first | with_reducible assumption | rfl))) | ((with_reducible apply ldro); (· (first | with_reducible assumption | (simp (disch := omega) only [go_sem, *]; try rfl))); (· (first | with_reducible assumption | rfl))) | ((with_reducible apply st1); (· (first | with_reducible assumption | (simp (disch := omega) only [go_sem, *]; try rfl))); (· simp); (· rfl)) | with_reducible refine ifT rfl ?_ | with_reducible refine ifF (not_not_intro rfl) ?_ | with_reducible refine ifT (by omega) ?_ | with_reducible refine ifF (by omega) ?_)
          refine own2.push (m := 1) s02 rfl (by omega) (by omega) (by omega) rfl rfl (tokC_one _) (by omega) ?_ (by simp only [Mem.next_put, Mem.next_bump]; omega)
          intro v' σ3 own3 s3 hn3 _ _
          repeat (first | refine To.go ?_ | with_reducible refine And.intro (by first | omega | exact ⟨rfl, rfl⟩) ?_ | ((with_reducible apply opt); (· (first | with_reducible assumption | rfl))) | ((with_reducible apply ldrw); (· (first | with_reducible assumption | (simp (disch := omega) only [go_sem, *]; try rfl))); (· (first | with_reducible assumption | rfl))) | ((with_reducible apply ldro); (· (first | with_reducible assumption | (simp (disch := omega) only [go_sem, *]; try rfl))); (· (first | with_reducible assumption | rfl))) | ((with_reducible apply st1); (· (first | with_reducible assumption | (simp (disch := omega) only [go_sem, *]; try rfl))); (· simp); (· rfl)) | with_reducible refine ifT rfl ?_ | with_reducible refine ifF (not_not_intro rfl) ?_ | with_reducible refine ifT (by omega) ?_ | with_reducible refine ifF (by omega) ?_)
          refine ⟨by rw [hpos, htk']; omega, ?_, s3.bump _⟩
          rw [tks_succ, htk, htk']
          exact own3.same ((Mem.Same.refl σ3).bump 3)
      · rintro v' _ σ3 ⟨rfl, own3, s3⟩
        unfold F_ref04_Tokens_j2
        refine again ⟨k + 1, ⟨rfl, hk', own3, s3⟩, ?_⟩
        have := tk_le hlt'
        rw [hpos]; omega
  · exact ⟨k, ⟨by omega, hk⟩, own.same ((Mem.Same.refl σ1).bump 6), s1.bump _⟩
end Go.Vit
