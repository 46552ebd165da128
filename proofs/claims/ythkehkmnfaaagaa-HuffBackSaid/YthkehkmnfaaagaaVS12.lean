/- The law HuffLays. -/
import Derived.Test.YthkehkmnfaaagaaVS11
set_option linter.unusedVariables false
set_option linter.unusedSimpArgs false
set_option linter.unusedSimpArgs false
set_option maxRecDepth 20000
namespace Go.Vit
open Go.Proofs
theorem args_LL {σ : Mem} {l : List AV} (hw : Wts PG σ [22, 22] l) : ∃ a L c M, l = [a, c] ∧ RdS 1 σ a (ic L) L.length ∧ L.length ≤ 2 ^ 44 ∧ RdS 1 σ c (ic M) M.length ∧ M.length ≤ 2 ^ 44 ∧ ∀ x ∈ M, -9223372036854775808 ≤ x ∧ x ≤ 9223372036854775807 := by
  obtain ⟨a, r, L, rfl, hw, ha, hn, hL⟩ := Wts.ints (e := 3) (by kernel_rfl) (by kernel_rfl) (by kernel_rfl) (by kernel_rfl) hw
  obtain ⟨c, r, M, rfl, hw, hc, hm, hM⟩ := Wts.ints (e := 3) (by kernel_rfl) (by kernel_rfl) (by kernel_rfl) (by kernel_rfl) hw
  obtain rfl := hw.nil_inv
  exact ⟨a, L, c, M, rfl, ha, hn, hc, hm, hM⟩
theorem layS_le {L : List Int} (hL : lens L) (p : Nat × Nat) (x : Int) : (layS L p x).2 ≤ p.2 + 15 := by
  unfold layS
  split
  · rename_i h
    rw [layC_len]
    have hi : x.toNat < L.length := by have := h.1; have := h.2.1; omega
    rw [getD_of hi]
    have := hL.2 _ (List.getElem_mem hi)
    omega
  · omega
theorem Two.left2 {σ σ1 : Mem} {w x : Nat} {p q : Nat × Nat} (h : Two σ σ1 w x p q) : ∃ o, WrP σ1 w o p.1 p.2 ∧ (∀ b ∈ o, σ.next ≤ b) ∧ σ.Same σ1 ∧ ∀ σ2 p', (∃ o', WrP σ2 w o' p'.1 p'.2 ∧ Grow o o' σ1 σ2) → Two σ σ2 w x p' q := by
  obtain ⟨o1, o2, h1, h2, h3, h4, h5, h6, h7⟩ := h
  refine ⟨o1, h1, h5, h7, fun σ2 p' ⟨o', h8, g⟩ => ?_⟩
  obtain ⟨s, hn⟩ := g.same h7 h5
  obtain ⟨a1, a2⟩ := g.apart h4
  exact ⟨o', o2, h8, h2.keep a2, fun b hb => ⟨g.lt b hb, fun hm => (a1 b hm).2 hb⟩, a1, hn, h6, s⟩
theorem Two.right2 {σ σ1 : Mem} {w x : Nat} {p q : Nat × Nat} (h : Two σ σ1 w x p q) : ∃ o, WrR σ1 x o q.1 q.2 ∧ (∀ b ∈ o, σ.next ≤ b) ∧ σ.Same σ1 ∧ ∀ σ2 q', (∃ o', WrR σ2 x o' q'.1 q'.2 ∧ Grow o o' σ1 σ2) → Two σ σ2 w x p q' := by
  obtain ⟨o1, o2, h1, h2, h3, h4, h5, h6, h7⟩ := h
  refine ⟨o2, h2, h6, h7, fun σ2 q' ⟨o', h8, g⟩ => ?_⟩
  obtain ⟨s, hn⟩ := g.same h7 h6
  obtain ⟨a1, a2⟩ := g.apart h3
  exact ⟨o1, o', h1.keep a2, h8, a1, fun b hb => ⟨g.lt b hb, fun hm => (a1 b hm).2 hb⟩, h5, hn, s⟩
theorem law02_HuffLays (σ : Mem) (l : List AV) (_ : σ.Ro) (hw : Wts PG σ Try.f8.params.toList l) : ACalls PG n_law02_HuffLays l σ fun v _ => isTrue v := by
  obtain ⟨a, L, c, M, rfl, ha, hn, hm, hmn, _⟩ := args_LL (show Wts PG σ [22, 22] l by rw [Try.params8] at hw; exact hw)
  clear hw
  refine ok_law02_HuffLays fun live => ?_
  unfold F_law02_HuffLays
  have hla := ha.lt live
  have hlm := hm.lt live
  refine callW_of (huff_Make (σ := σ.bump 8) (ha.keep fun _ _ => rfl) hn) ?_
  rintro _ σ1 ⟨p, rfl, p1, p2, s1⟩
  replace s1 := s1.ob
  have n1 := s1.next
  repeat (first | refine To.go ?_ | with_reducible refine And.intro (by first | omega | exact ⟨rfl, rfl⟩) ?_ | ((with_reducible apply opt); (· (first | with_reducible assumption | rfl))) | ((with_reducible apply ldrw); (· (first | with_reducible assumption | (simp (disch := omega) only [go_sem, *]; try rfl))); (· (first | with_reducible assumption | rfl))) | ((with_reducible apply ldro); (· (first | with_reducible assumption | (simp (disch := omega) only [go_sem, *]; try rfl))); (· (first | with_reducible assumption | rfl))) | ((with_reducible apply st1); (· (first | with_reducible assumption | (simp (disch := omega) only [go_sem, *]; try rfl))); (· simp); (· rfl)) | with_reducible refine ifT rfl ?_ | with_reducible refine ifF (not_not_intro rfl) ?_ | with_reducible refine ifT (by omega) ?_ | with_reducible refine ifF (by omega) ?_)
  refine callW_of (ref02_Make (σ := σ1.bump 7) (ha.keep fun b hb => s1.get b (hla b hb)) hn) ?_
  rintro _ σ2 ⟨q, rfl, q1, q2, s2⟩
  have n2 := s2.next
  simp only [Mem.next_bump] at n2 q2
  replace s2 := s2.ob
  repeat (first | refine To.go ?_ | with_reducible refine And.intro (by first | omega | exact ⟨rfl, rfl⟩) ?_ | ((with_reducible apply opt); (· (first | with_reducible assumption | rfl))) | ((with_reducible apply ldrw); (· (first | with_reducible assumption | (simp (disch := omega) only [go_sem, *]; try rfl))); (· (first | with_reducible assumption | rfl))) | ((with_reducible apply ldro); (· (first | with_reducible assumption | (simp (disch := omega) only [go_sem, *]; try rfl))); (· (first | with_reducible assumption | rfl))) | ((with_reducible apply st1); (· (first | with_reducible assumption | (simp (disch := omega) only [go_sem, *]; try rfl))); (· simp); (· rfl)) | with_reducible refine ifT rfl ?_ | with_reducible refine ifF (not_not_intro rfl) ?_ | with_reducible refine ifT (by omega) ?_ | with_reducible refine ifF (by omega) ?_)
  by_cases hc : chk L = 0
  · obtain ⟨hL, t, rfl, ht⟩ := p2 hc
    obtain ⟨_, u, rfl, hu⟩ := q2 hc
    repeat (first | refine To.go ?_ | with_reducible refine And.intro (by first | omega | exact ⟨rfl, rfl⟩) ?_ | ((with_reducible apply opt); (· (first | with_reducible assumption | rfl))) | ((with_reducible apply ldrw); (· (first | with_reducible assumption | (simp (disch := omega) only [go_sem, *]; try rfl))); (· (first | with_reducible assumption | rfl))) | ((with_reducible apply ldro); (· (first | with_reducible assumption | (simp (disch := omega) only [go_sem, *]; try rfl))); (· (first | with_reducible assumption | rfl))) | ((with_reducible apply st1); (· (first | with_reducible assumption | (simp (disch := omega) only [go_sem, *]; try rfl))); (· simp); (· rfl)) | with_reducible refine ifT rfl ?_ | with_reducible refine ifF (not_not_intro rfl) ?_ | with_reducible refine ifT (by omega) ?_ | with_reducible refine ifF (by omega) ?_)
    refine callW_of (bits_New _) ?_
    rintro _ σ3 ⟨w, rfl, w1, w2, ew, s3⟩
    have n3 := s3.next
    simp only [Mem.next_bump] at n3 w1
    replace s3 := s3.ob
    refine boxW_agg rfl ?_
    refine To.go ?_
    obtain ⟨x, hx⟩ : ∃ x, σ3.next + 1 = x := ⟨_, rfl⟩
    rw [hx]
    have ht2 := (ht.b).keep fun b h1 h2 => s2.get b h2
    have s02 := s1.trans s2
    refine loop1 (fun (i : Nat) (y : Int) σ' => y = i ∧ i ≤ M.length ∧ i ≤ 200 ∧ ∃ p, p.2 ≤ 15 * i ∧ Two σ2 σ' w x p p) (fun i => M.length - i) 0 ⟨rfl, by omega, by omega, (0, 0), by omega, [w], [x], ?_, ?_, ?_, ?_, ?_, ?_, ?_⟩ ?_
    · exact ew.keep fun b hb => by simp at hb; rw [Mem.get_bump, Mem.get_put_ne _ (by omega)]; rfl
    · exact ⟨by decide, .nils, rfl, by simp [blkOf], by rw [Mem.get_bump, gS']; rfl, .nil 1 _⟩
    · intro b hb
      simp at hb ⊢
      simp only [Mem.next_bump, Mem.next_put]; omega
    · intro b hb
      simp at hb ⊢
      simp only [Mem.next_bump, Mem.next_put]; omega
    · intro b hb
      simp at hb; omega
    · intro b hb
      simp at hb; omega
    · repeat (with_reducible first | assumption | exact Mem.Only.refl _ _ | exact Mem.Same.refl _ | refine Mem.Only.bump ?_ _ | refine Mem.Only.put ?_ (by simp) _ | refine Mem.Only.put ?_ (.inr (by first | omega | (simp only [Mem.next_bump, Mem.next_put]; omega))) _ | refine Mem.Same.bump ?_ _ | refine Mem.Same.put ?_ (by first | omega | (simp only [Mem.next_bump, Mem.next_put]; omega)) _)
    rintro i _ σ4 ⟨rfl, hi, hi200, p, hp, tw⟩
    unfold F_law02_HuffLays_l1
    rw [hx]
    have done : ∀ k, i ≤ 200 → callW PG n_bits_Writer_Text [.ptr w 0] (σ4.bump k) fun v33 σ34 =>
        castS v33 fun v35 =>
        callW PG n_ref01_Writer_Text [.ptr x 0] σ34 fun v36 σ37 =>
        castS v36 fun v38 =>
        ifB (decide (v35 = v38)) (
        callW PG n_law02_awake [] σ37 fun v39 σ40 =>
        castB v39 fun v41 =>
        (fun v _ => isTrue v) (.bool v41) σ40) (
        (fun (v : AV) (_ : Mem) => isTrue v) (.bool false) σ37) := by
      intro k hi
      obtain ⟨o1, o2, h1, h2, h3, h4, h5, h6, h7⟩ := tw
      refine callW_of (bits_Writer_Text (σ := σ4.bump k) (h1.keep fun _ _ => rfl) (by omega)) ?_
      rintro _ σ5 ⟨rfl, s5⟩
      replace s5 := s5.ob
      refine To.go ?_
      refine callW_of (ref01_Writer_Text (h2.keep fun b hb => s5.get b (h4 b hb).1)) ?_
      rintro _ σ6 ⟨rfl, s6⟩
      refine To.go ?_
      refine ifD (fun _ => ?_) (fun h => absurd rfl h)
      refine callW_of (law02_awake _) ?_
      rintro v σ8 ⟨rfl, rfl⟩
      repeat (first | refine To.go ?_ | with_reducible refine And.intro (by first | omega | exact ⟨rfl, rfl⟩) ?_ | ((with_reducible apply opt); (· (first | with_reducible assumption | rfl))) | ((with_reducible apply ldrw); (· (first | with_reducible assumption | (simp (disch := omega) only [go_sem, *]; try rfl))); (· (first | with_reducible assumption | rfl))) | ((with_reducible apply ldro); (· (first | with_reducible assumption | (simp (disch := omega) only [go_sem, *]; try rfl))); (· (first | with_reducible assumption | rfl))) | ((with_reducible apply st1); (· (first | with_reducible assumption | (simp (disch := omega) only [go_sem, *]; try rfl))); (· simp); (· rfl)) | with_reducible refine ifT rfl ?_ | with_reducible refine ifF (not_not_intro rfl) ?_ | with_reducible refine ifT (by omega) ?_ | with_reducible refine ifF (by omega) ?_)
      exact rfl
    refine hm.len ?_
    refine ifD (fun hlt => ?_) (fun hge => ?_)
    · refine ifD (fun h2 => ?_) (fun h2 => ?_)
      · have hil : i < M.length := by omega
        obtain ⟨o, hP, ho, s24, hT⟩ := tw.left2
        have n24 := s24.next
        have s04 := s02.trans s24
        obtain ⟨b, cc, rfl, hget⟩ := (hm.keep fun b hb => s04.get b (hlm b hb)).at hil
        have hbl := hlm b (by simp [blkOf])
        refine To.go ?_
        refine And.intro hil ?_
        refine hget _ ?_
        refine To.go ?_
        refine To.go ?_
        refine And.intro hil ?_
        refine To.go ?_
        refine hget _ ?_
        refine To.go ?_
        refine callW_of (huff_Lay (σ := σ4.bump 23) hL (ht2.keep fun b h1 h2 => s24.get b (by omega)) (by simp only [Mem.next_bump]; omega) (fun b hb => .inr (by have := ho b hb; omega)) (hP.keep fun _ _ => rfl) (by omega)) ?_
        rintro _ σ5 ⟨rfl, o', hP', hG⟩
        have tw2 := hT σ5 (layS L p M[i]) ⟨o', hP', hG.ob⟩
        have hls := layS_le hL p M[i]
        obtain ⟨o2, hR, ho2, s25, hT2⟩ := tw2.right2
        have n25 := s25.next
        refine To.go ?_
        refine And.intro ?_ ?_
        · rw [s25.get b (by omega), Mem.get_bump, s24.get b (by omega)]
        refine To.go ?_
        refine callW_of (ref02_Lay (σ := σ5) hL (hu.keep fun b h1 h2 => s25.get b (by omega)) (by omega) (fun b hb => .inr (by have := ho2 b hb; omega)) hR (by omega)) ?_
        rintro _ σ6 ⟨rfl, o'', hR', hG'⟩
        have tw3 := hT2 σ6 (layS L p M[i]) ⟨o'', hR', hG'⟩
        refine To.go ?_
        refine ifD (fun h => absurd rfl h) (fun _ => ?_)
        refine iW_of (by omega) ?_
        exact again ⟨i + 1, ⟨by omega, by omega, by omega, _, by omega, tw3.same ((Mem.Same.refl σ6).bump 3)⟩, by omega⟩
      · exact done _ (by omega)
    · exact done _ (by omega)
  · rw [p1 hc, q1 hc]
    repeat (first | refine To.go ?_ | with_reducible refine And.intro (by first | omega | exact ⟨rfl, rfl⟩) ?_ | ((with_reducible apply opt); (· (first | with_reducible assumption | rfl))) | ((with_reducible apply ldrw); (· (first | with_reducible assumption | (simp (disch := omega) only [go_sem, *]; try rfl))); (· (first | with_reducible assumption | rfl))) | ((with_reducible apply ldro); (· (first | with_reducible assumption | (simp (disch := omega) only [go_sem, *]; try rfl))); (· (first | with_reducible assumption | rfl))) | ((with_reducible apply st1); (· (first | with_reducible assumption | (simp (disch := omega) only [go_sem, *]; try rfl))); (· simp); (· rfl)) | with_reducible refine ifT rfl ?_ | with_reducible refine ifF (not_not_intro rfl) ?_ | with_reducible refine ifT (by omega) ?_ | with_reducible refine ifF (by omega) ?_)
    refine callW_of (law02_awake _) ?_
    rintro v σ8 ⟨rfl, rfl⟩
    repeat (first | refine To.go ?_ | with_reducible refine And.intro (by first | omega | exact ⟨rfl, rfl⟩) ?_ | ((with_reducible apply opt); (· (first | with_reducible assumption | rfl))) | ((with_reducible apply ldrw); (· (first | with_reducible assumption | (simp (disch := omega) only [go_sem, *]; try rfl))); (· (first | with_reducible assumption | rfl))) | ((with_reducible apply ldro); (· (first | with_reducible assumption | (simp (disch := omega) only [go_sem, *]; try rfl))); (· (first | with_reducible assumption | rfl))) | ((with_reducible apply st1); (· (first | with_reducible assumption | (simp (disch := omega) only [go_sem, *]; try rfl))); (· simp); (· rfl)) | with_reducible refine ifT rfl ?_ | with_reducible refine ifF (not_not_intro rfl) ?_ | with_reducible refine ifT (by omega) ?_ | with_reducible refine ifF (by omega) ?_)
    exact rfl
end Go.Vit
