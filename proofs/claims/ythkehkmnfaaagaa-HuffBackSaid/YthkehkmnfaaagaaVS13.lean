/- The law HuffBack. -/
import Derived.Test.YthkehkmnfaaagaaVS12
import Derived.Test.YthkehkmnfaaagaaVm3
set_option linter.unusedVariables false
set_option linter.unusedSimpArgs false
set_option linter.unusedSimpArgs false
set_option maxRecDepth 20000
namespace Go.Vit
open Go.Proofs
theorem lay_front (p : Nat × Nat) (v n : Int) : Front p (lay p.1 p.2 v n) := by
  unfold lay
  split
  · exact .refl p
  · exact ⟨Nat.le_add_right _ _, _, rfl⟩
theorem layC_front (c : Nat) : ∀ (k : Nat) (p : Nat × Nat), Front p (layC p c k)
  | 0, p => .refl p
  | k + 1, p => (lay_front p _ 1).trans (layC_front c k _)
theorem layS_front (L : List Int) (p : Nat × Nat) (x : Int) : Front p (layS L p x) := by
  unfold layS
  split
  · exact layC_front _ _ _
  · exact .refl p
theorem layC_lt (c : Nat) : ∀ (k : Nat) {p : Nat × Nat}, p.1 < 2 ^ p.2 → (layC p c k).1 < 2 ^ (layC p c k).2
  | 0, _, h => h
  | k + 1, _, h => layC_lt c k (lay_lt _ _ h)
theorem layS_lt (L : List Int) {p : Nat × Nat} (x : Int) (h : p.1 < 2 ^ p.2) : (layS L p x).1 < 2 ^ (layS L p x).2 := by
  unfold layS
  split
  · exact layC_lt _ _ h
  · exact h
/-- One bit that was laid. -/
theorem bit_laid {p q : Nat × Nat} {v : Nat} (hp : p.1 < 2 ^ p.2) (h : Front (lay p.1 p.2 (v : Int) 1) q) : ¬ 8 * (text q.1 q.2).size ≤ p.2 ∧ bitAt (text q.1 q.2) p.2 = v % 2 := by
  have h1 := h.1
  rw [lay_one] at h1
  have hs : ¬ 8 * (text q.1 q.2).size ≤ p.2 := by rw [size_text]; omega
  have h2 := read_bits (n := 1) (by omega) hp h
  rw [show (((1 : Nat) : Int)) = 1 from rfl, rdBits_one hs] at h2
  injection h2 with h2
  refine ⟨hs, ?_⟩
  rw [h2]
  omega
theorem dec_bits {L : List Int} {q : Nat × Nat} {n i : Nat} (hc : chk L = 0) (h0 : 0 < n) (hi : i < L.length) (h : L.getD i 0 = n) : ∀ (k : Nat) {p : Nat × Nat} (f : Nat), 0 < k → k ≤ n → k ≤ f → p.1 < 2 ^ p.2 → Front (layC p (cd L i) k) q → dec L (text q.1 q.2) f (n - k + 1) (cd L i / 2 ^ k) p.2 = (((i : Nat) : Int), 0, p.2 + k)
  | 0, _, _, hk, _, _, _, _ => by omega
  | k + 1, p, 0, _, _, hf, _, _ => by omega
  | k + 1, p, f + 1, _, hk, hf, hp, hq => by
    have hl : Front (lay p.1 p.2 ((cd L i / 2 ^ k : Nat) : Int) 1) q := (layC_front _ _ _).trans hq
    obtain ⟨hs, hb⟩ := bit_laid hp hl
    have hcode : 2 * (cd L i / 2 ^ (k + 1)) + cd L i / 2 ^ k % 2 = cd L i / 2 ^ k := by
      rw [Nat.pow_succ, ← Nat.div_div_eq_div_mul]; omega
    rw [dec, if_neg hs, hb, hcode, show n - (k + 1) + 1 = n - k from by omega]
    have hcd := cd_of h0 h
    rcases Nat.eq_zero_or_pos k with rfl | hk0
    · have hlt := cN_take_lt h0 hi (Nat.le_refl _) h
      rw [List.take_length] at hlt
      obtain ⟨j, hj, hjn, hjk, hf'⟩ := fnd_code (L := L) (n := n) (c := cd L i) h0 (by omega) (by omega)
      have hji : j = i := by
        rcases Nat.lt_trichotomy j i with hlt' | rfl | hlt'
        · have := cN_take_lt h0 hlt' (by omega) hjn; omega
        · rfl
        · have := cN_take_lt h0 hlt' (by omega) h; omega
      rw [Nat.pow_zero, Nat.div_one, Nat.sub_zero, hf', hji]
    · have hno : fnd L (n - k) (cd L i / 2 ^ k) = none := by
        refine fnd_no (by omega) ?_
        rw [Nat.le_div_iff_mul_le (Nat.two_pow_pos _)]
        obtain ⟨m, rfl⟩ : ∃ m, k = m + 1 := ⟨k - 1, by omega⟩
        have := fc_up L (n - (m + 1)) m
        rw [show n - (m + 1) + (m + 1) = n from by omega] at this
        omega
      rw [hno]
      have ih := dec_bits hc h0 hi h k (p := lay p.1 p.2 ((cd L i / 2 ^ k : Nat) : Int) 1) (q := q) f hk0 (by omega) (by omega) (lay_lt _ _ hp) hq
      rw [lay_one] at ih
      show dec L (text q.1 q.2) f (n - k + 1) (cd L i / 2 ^ k) (p.2 + 1) = _
      rw [ih, show p.2 + 1 + k = p.2 + (k + 1) from by omega]
theorem dec_lay {L : List Int} {p q : Nat × Nat} {x : Int} (hc : chk L = 0) (hx : hasS L x) (hp : p.1 < 2 ^ p.2) (h : Front (layS L p x) q) : dec L (text q.1 q.2) (mostN L) 1 0 p.2 = (x, 0, (layS L p x).2) := by
  have hL := chk_zero hc
  obtain ⟨h1, h2, h3⟩ := hx
  obtain ⟨i, rfl⟩ := int_nat h1
  rw [Int.toNat_natCast] at h3
  have hi : i < L.length := by omega
  have hb := hL.2 _ (List.getElem_mem hi)
  rw [← getD_of hi] at hb
  obtain ⟨n, hn⟩ := int_nat hb.1
  have h0 : 0 < n := by rcases Nat.eq_zero_or_pos n with rfl | h; exact absurd hn h3; exact h
  have hS : layS L p (i : Int) = layC p (cd L i) n := by unfold layS; rw [if_pos ⟨h1, h2, by rw [Int.toNat_natCast]; exact h3⟩, Int.toNat_natCast, hn, Int.toNat_natCast]
  rw [hS] at h ⊢
  have hlt := (code_lt hc h0 hi hn).1
  have := dec_bits hc h0 hi hn n (mostN L) h0 (Nat.le_refl _) (len_most hc h0 hi hn) hp h
  rw [Nat.div_eq_of_lt hlt, Nat.sub_self] at this
  rw [this, layC_len]
/-- What symbols lay. -/
def lays (L : List Int) (X : List Int) (k : Nat) : Nat × Nat := (X.take k).foldl (layS L) (0, 0)
theorem lays_succ {L X : List Int} {k : Nat} (h : k < X.length) : lays L X (k + 1) = layS L (lays L X k) X[k] := by
  unfold lays
  rw [List.take_succ_eq_append_getElem h, List.foldl_append]; rfl
theorem lays_push (L X : List Int) (x : Int) : lays L (X ++ [x]) (X.length + 1) = layS L (lays L X X.length) x := by
  unfold lays
  rw [List.take_of_length_le (by simp), List.foldl_append, List.take_length]; rfl
theorem lays_lt {L X : List Int} : ∀ {k : Nat}, k ≤ X.length → (lays L X k).1 < 2 ^ (lays L X k).2
  | 0, _ => by simp [lays]
  | k + 1, h => by rw [lays_succ (by omega)]; exact layS_lt _ _ (lays_lt (by omega))
theorem lays_front {L X : List Int} {k : Nat} : ∀ {m : Nat}, k ≤ m → m ≤ X.length → Front (lays L X k) (lays L X m)
  | 0, h, _ => by obtain rfl : k = 0 := by omega
                  exact .refl _
  | m + 1, h, hm => by
    rcases Nat.eq_or_lt_of_le h with rfl | h
    · exact .refl _
    · rw [lays_succ (by omega)]
      exact (lays_front (by omega) (by omega)).trans (layS_front _ _ _)
theorem dec_lays {L X : List Int} {k : Nat} (hc : chk L = 0) (hk : k < X.length) (hX : ∀ x ∈ X, hasS L x) : dec L (text (lays L X X.length).1 (lays L X X.length).2) (mostN L) 1 0 (lays L X k).2 = (X[k], 0, (lays L X (k + 1)).2) := by
  have hf := lays_front (L := L) (X := X) (k := k + 1) (m := X.length) (by omega) (Nat.le_refl _)
  rw [lays_succ hk] at hf ⊢
  exact dec_lay hc (hX _ (List.getElem_mem hk)) (lays_lt (by omega)) hf
/-- The writer and the list of what was laid. -/
def WL (σ σ' : Mem) (w : Nat) (p : Nat × Nat) (v : AV) (X : List Int) : Prop :=
  ∃ o, WrP σ' w o p.1 p.2 ∧ OwnS 1 σ' v (ic X) X.length ∧ (∀ b ∈ o, σ.next ≤ b ∧ b < σ'.next ∧ b ∉ blkOf v) ∧ (∀ b ∈ blkOf v, σ.next ≤ b ∧ b < σ'.next ∧ b ∉ o) ∧ σ.Same σ'
theorem WL.same {σ σ1 σ2 : Mem} {w : Nat} {p : Nat × Nat} {v : AV} {X : List Int} (h : WL σ σ1 w p v X) (s : σ1.Same σ2) : WL σ σ2 w p v X := by
  obtain ⟨o, h1, h2, h3, h4, h5⟩ := h
  have n := s.next
  exact ⟨o, h1.keep fun b hb => s.get b (h3 b hb).2.1, h2.keep fun b hb => s.get b (h4 b hb).2.1, fun b hb => by have := h3 b hb; exact ⟨this.1, by omega, this.2.2⟩, fun b hb => by have := h4 b hb; exact ⟨this.1, by omega, this.2.2⟩, h5.trans s⟩
theorem WL.lay {σ σ1 : Mem} {w : Nat} {p : Nat × Nat} {v : AV} {X : List Int} (h : WL σ σ1 w p v X) : ∃ o, WrP σ1 w o p.1 p.2 ∧ (∀ b ∈ o, σ.next ≤ b) ∧ σ.Same σ1 ∧ ∀ σ2 p', (∃ o', WrP σ2 w o' p'.1 p'.2 ∧ Grow o o' σ1 σ2) → WL σ σ2 w p' v X := by
  obtain ⟨o, h1, h2, h3, h4, h5⟩ := h
  refine ⟨o, h1, fun b hb => (h3 b hb).1, h5, fun σ2 p' ⟨o', h8, g⟩ => ?_⟩
  obtain ⟨s, hn⟩ := g.same h5 fun b hb => (h3 b hb).1
  obtain ⟨a1, a2⟩ := g.apart (p := blkOf v) fun b hb => (h4 b hb).2
  exact ⟨o', h8, h2.keep a2, fun b hb => ⟨hn b hb, g.lt b hb, fun hm => (a1 b hm).2 hb⟩, fun b hb => ⟨(h4 b hb).1, a1 b hb⟩, s⟩
theorem law02_HuffBack (σ : Mem) (l : List AV) (_ : σ.Ro) (hw : Wts PG σ Try.f11.params.toList l) : ACalls PG n_law02_HuffBack l σ fun v _ => isTrue v := by
  obtain ⟨a, L, c, M, rfl, ha, hn, hm, hmn, _⟩ := args_LL (show Wts PG σ [22, 22] l by rw [Try.params11] at hw; exact hw)
  clear hw
  refine ok_law02_HuffBack fun live => ?_
  unfold F_law02_HuffBack
  have hla := ha.lt live
  have hlm := hm.lt live
  refine callW_of (huff_Make (σ := σ.bump 8) (ha.keep fun _ _ => rfl) hn) ?_
  rintro _ σ1 ⟨p, rfl, p1, p2, s1⟩
  replace s1 := s1.ob
  have n1 := s1.next
  by_cases hc : chk L = 0
  · obtain ⟨hL, t, rfl, ht⟩ := p2 hc
    rw [hc]
    repeat (first | refine To.go ?_ | with_reducible refine And.intro (by first | omega | exact ⟨rfl, rfl⟩) ?_ | ((with_reducible apply opt); (· (first | with_reducible assumption | rfl))) | ((with_reducible apply ldrw); (· (first | with_reducible assumption | (simp (disch := omega) only [go_sem, *]; try rfl))); (· (first | with_reducible assumption | rfl))) | ((with_reducible apply ldro); (· (first | with_reducible assumption | (simp (disch := omega) only [go_sem, *]; try rfl))); (· (first | with_reducible assumption | rfl))) | ((with_reducible apply st1); (· (first | with_reducible assumption | (simp (disch := omega) only [go_sem, *]; try rfl))); (· simp); (· rfl)) | with_reducible refine ifT rfl ?_ | with_reducible refine ifF (not_not_intro rfl) ?_ | with_reducible refine ifT (by omega) ?_ | with_reducible refine ifF (by omega) ?_)
    refine callW_of (bits_New _) ?_
    rintro _ σ2 ⟨w, rfl, w1, w2, ew, s2⟩
    simp only [Mem.next_bump] at w1
    replace s2 := s2.ob
    have n2 := s2.next
    have ht1 := ht.b
    refine join1 (fun (v : AV) σ' => ∃ X, (∀ x ∈ X, hasS L x) ∧ X.length ≤ 200 ∧ WL σ1 σ' w (lays L X X.length) v X ∧ (lays L X X.length).2 ≤ 15 * X.length) ?_ ?_
    · refine loop2 (fun (i : Nat) (v : AV) (y : Int) σ' => y = i ∧ i ≤ M.length ∧ ∃ X, (∀ x ∈ X, hasS L x) ∧ X.length ≤ i ∧ i ≤ 200 ∧ WL σ1 σ' w (lays L X X.length) v X ∧ (lays L X X.length).2 ≤ 15 * X.length) (fun i => M.length - i) 0 ⟨rfl, by omega, [], fun x h => by simp at h, by simp, by omega, ⟨[w], ew.keep fun _ _ => rfl, .nil 1 _, ?_, ?_, s2.bump _⟩, Nat.zero_le _⟩ ?_
      · intro b hb
        simp at hb ⊢
        subst hb
        refine ⟨by omega, by simp only [Mem.next_bump]; omega, by simp [blkOf]⟩
      · intro b hb; simp [blkOf] at hb
      rintro i v _ σ3 ⟨rfl, hi, X, hX, hXl, hi2, wl, hle⟩
      unfold F_law02_HuffBack_l2
      have done : ∀ k, ∃ X, (∀ x ∈ X, hasS L x) ∧ X.length ≤ 200 ∧ WL σ1 (σ3.bump k) w (lays L X X.length) v X ∧ (lays L X X.length).2 ≤ 15 * X.length := fun k => ⟨X, hX, by omega, wl.same ((Mem.Same.refl _).bump k), hle⟩
      refine hm.len ?_
      refine ifD (fun hlt => ?_) (fun hge => done _)
      refine ifD (fun hlt2 => ?_) (fun hge2 => done _)
      have hil : i < M.length := by omega
      obtain ⟨o, hP, ho, s13, hT⟩ := wl.lay
      have n13 := s13.next
      have s03 := s1.trans s13
      obtain ⟨b, cc, rfl, hget⟩ := (hm.keep fun b hb => s03.get b (hlm b hb)).at hil
      obtain ⟨x, hx⟩ : ∃ x, M[i] = x := ⟨_, rfl⟩
      rw [hx] at hget
      refine To.go ?_
      refine And.intro hil ?_
      refine hget _ ?_
      refine To.go ?_
      have hlS := layS_le hL (lays L X X.length) x
      refine callW_of (huff_Lay (σ := σ3.bump 18) (x := x) hL (ht1.keep fun b h1 h2 => s13.get b h2) (by simp only [Mem.next_bump]; omega) (fun b hb => .inr (ho b hb)) (hP.keep fun _ _ => rfl) (by omega)) ?_
      rintro _ σ4 ⟨rfl, o', hP', hG⟩
      have wl2 := hT σ4 (layS L (lays L X X.length) x) ⟨o', hP', hG.ob⟩
      have s14 : σ1.Same σ4 := by obtain ⟨_, _, _, _, _, h⟩ := wl2; exact h
      have s04 := s1.trans s14
      refine To.go ?_
      refine join1 (fun (q : Bool) σ' => q = decide (hasS L x) ∧ σ4.Same σ') ?_ ?_
      · refine ifD (fun h0 => ?_) (fun h0 => ?_)
        · obtain ⟨j, rfl⟩ := int_nat h0
          refine ha.len ?_
          refine ifD (fun h1 => ?_) (fun h1 => ?_)
          · have hjl : j < L.length := by omega
            have hgd := getD_of hjl
            have hb := hL.2 _ (List.getElem_mem hjl)
            obtain ⟨ba, ca, rfl, hgeta⟩ := (ha.keep fun b hb => s04.get b (hla b hb)).at hjl
            refine To.go ?_
            refine And.intro hjl ?_
            refine hgeta _ ?_
            obtain ⟨y, hy⟩ : ∃ y, L[j] = y := ⟨_, rfl⟩
            rw [hy] at hgd hb ⊢
            refine To.go ?_
            refine ⟨?_, (Mem.Same.refl σ4).bump _⟩
            congr 1
            rw [eq_iff_iff]
            unfold hasS
            rw [Int.toNat_natCast, hgd]
            omega
          · exact ⟨(decide_eq_false fun h => by have := h.2.1; omega).symm, (Mem.Same.refl σ4).bump _⟩
        · exact ⟨(decide_eq_false fun h => by have := h.1; omega).symm, (Mem.Same.refl σ4).bump _⟩
      rintro _ σ5 ⟨rfl, s5⟩
      have wl5 := wl2.same s5
      unfold F_law02_HuffBack_j2
      by_cases hS : hasS L x
      · have hE : layE L x = 0 := if_pos hS
        rw [hE, decide_eq_true hS]
        repeat (first | refine To.go ?_ | with_reducible refine And.intro (by first | omega | exact ⟨rfl, rfl⟩) ?_ | ((with_reducible apply opt); (· (first | with_reducible assumption | rfl))) | ((with_reducible apply ldrw); (· (first | with_reducible assumption | (simp (disch := omega) only [go_sem, *]; try rfl))); (· (first | with_reducible assumption | rfl))) | ((with_reducible apply ldro); (· (first | with_reducible assumption | (simp (disch := omega) only [go_sem, *]; try rfl))); (· (first | with_reducible assumption | rfl))) | ((with_reducible apply st1); (· (first | with_reducible assumption | (simp (disch := omega) only [go_sem, *]; try rfl))); (· simp); (· rfl)) | with_reducible refine ifT rfl ?_ | with_reducible refine ifF (not_not_intro rfl) ?_ | with_reducible refine ifT (by omega) ?_ | with_reducible refine ifF (by omega) ?_)
        refine joinI ?_
        unfold F_law02_HuffBack_j4
        obtain ⟨o5, hP5, own5, h3, h4, s15⟩ := wl5
        have n15 := s15.next
        repeat (first | refine To.go ?_ | with_reducible refine And.intro (by first | omega | exact ⟨rfl, rfl⟩) ?_ | ((with_reducible apply opt); (· (first | with_reducible assumption | rfl))) | ((with_reducible apply ldrw); (· (first | with_reducible assumption | (simp (disch := omega) only [go_sem, *]; try rfl))); (· (first | with_reducible assumption | rfl))) | ((with_reducible apply ldro); (· (first | with_reducible assumption | (simp (disch := omega) only [go_sem, *]; try rfl))); (· (first | with_reducible assumption | rfl))) | ((with_reducible apply st1); (· (first | with_reducible assumption | (simp (disch := omega) only [go_sem, *]; try rfl))); (· simp); (· rfl)) | with_reducible refine ifT rfl ?_ | with_reducible refine ifF (not_not_intro rfl) ?_ | with_reducible refine ifT (by omega) ?_ | with_reducible refine ifF (by omega) ?_)
        refine Own.push (σ := σ1) (σ1 := σ5) (m := 1) (c := ic [x]) ⟨own5, fun b hb => ⟨(h4 b hb).1, (h4 b hb).2.1⟩⟩ s15 rfl (by omega) (by omega) (by omega) rfl rfl (ic_one _) (by omega) ?_ (by simp only [Mem.next_put, Mem.next_bump]; omega)
        intro v' σ6 own6 s16 hn6 o6 hb6
        refine iW_of (by omega) ?_
        rw [← ic_append] at own6
        have hl' := lays_push L X x
        refine again ⟨i + 1, ⟨by omega, by omega, X ++ [x], ?_, by simp; omega, by omega, ?_, ?_⟩, by omega⟩
        · intro y hy
          rcases List.mem_append.1 hy with hy | hy
          · exact hX y hy
          · rw [List.mem_singleton] at hy; subst hy; exact hS
        · rw [show (X ++ [x]).length = X.length + 1 from by simp, hl']
          refine ⟨o5, hP5.keep fun b hb => o6.get b (h3 b hb).2.1 (h3 b hb).2.2, by simpa using own6.1.keep (σ' := σ6.bump 3) fun _ _ => rfl, fun b hb => ?_, fun b hb => ?_, s16.bump _⟩
          · have := h3 b hb
            have n6 := o6.next
            refine ⟨this.1, by simp only [Mem.next_bump]; omega, fun hm => ?_⟩
            rcases hb6 b hm with h | h
            · exact this.2.2 h
            · omega
          · have := own6.2 b hb
            refine ⟨this.1, by simp only [Mem.next_bump]; omega, fun hm => ?_⟩
            have := h3 b hm
            rcases hb6 b hb with h | h
            · exact this.2.2 h
            · omega
        · rw [show (X ++ [x]).length = X.length + 1 from by simp, hl']
          omega
      · have hE : layE L x = 1 := if_neg hS
        have hS' : layS L (lays L X X.length) x = lays L X X.length := if_neg hS
        rw [hE, decide_eq_false hS]
        rw [hS'] at wl5
        repeat (first | refine To.go ?_ | with_reducible refine And.intro (by first | omega | exact ⟨rfl, rfl⟩) ?_ | ((with_reducible apply opt); (· (first | with_reducible assumption | rfl))) | ((with_reducible apply ldrw); (· (first | with_reducible assumption | (simp (disch := omega) only [go_sem, *]; try rfl))); (· (first | with_reducible assumption | rfl))) | ((with_reducible apply ldro); (· (first | with_reducible assumption | (simp (disch := omega) only [go_sem, *]; try rfl))); (· (first | with_reducible assumption | rfl))) | ((with_reducible apply st1); (· (first | with_reducible assumption | (simp (disch := omega) only [go_sem, *]; try rfl))); (· simp); (· rfl)) | with_reducible refine ifT rfl ?_ | with_reducible refine ifF (not_not_intro rfl) ?_ | with_reducible refine ifT (by omega) ?_ | with_reducible refine ifF (by omega) ?_)
        refine joinI ?_
        unfold F_law02_HuffBack_j3
        repeat (first | refine To.go ?_ | with_reducible refine And.intro (by first | omega | exact ⟨rfl, rfl⟩) ?_ | ((with_reducible apply opt); (· (first | with_reducible assumption | rfl))) | ((with_reducible apply ldrw); (· (first | with_reducible assumption | (simp (disch := omega) only [go_sem, *]; try rfl))); (· (first | with_reducible assumption | rfl))) | ((with_reducible apply ldro); (· (first | with_reducible assumption | (simp (disch := omega) only [go_sem, *]; try rfl))); (· (first | with_reducible assumption | rfl))) | ((with_reducible apply st1); (· (first | with_reducible assumption | (simp (disch := omega) only [go_sem, *]; try rfl))); (· simp); (· rfl)) | with_reducible refine ifT rfl ?_ | with_reducible refine ifF (not_not_intro rfl) ?_ | with_reducible refine ifT (by omega) ?_ | with_reducible refine ifF (by omega) ?_)
        exact again ⟨i + 1, ⟨by omega, by omega, X, hX, by omega, by omega, wl5.same (((Mem.Same.refl _).bump _).bump _), hle⟩, by omega⟩
    · rintro v σ3 ⟨X, hX, hXl, ⟨o, hP, own, h3, h4, s13⟩, hle⟩
      unfold F_law02_HuffBack_j1
      have n13 := s13.next
      refine callW_of (bits_Writer_Text (σ := σ3.bump 4) (hP.keep fun _ _ => rfl) (by omega)) ?_
      rintro _ σ4 ⟨rfl, s4⟩
      replace s4 := s4.ob
      have n4 := s4.next
      refine To.go ?_
      refine callW_of (bits_Read _ _) ?_
      rintro _ σ5 ⟨r, rfl, r1, r2, er, s5⟩
      have n5 := s5.next
      have s35 := s4.trans s5
      have s15 := s13.trans s35
      have hsz := size_text (lays L X X.length).1 (lays L X X.length).2
      have hdec := fun k hk => dec_lays (L := L) (X := X) (k := k) hc hk hX
      have hfr := fun k hk => (lays_front (L := L) (X := X) (k := k) (m := X.length) hk (Nat.le_refl _)).1
      obtain ⟨q, hq⟩ : ∃ q, lays L X X.length = q := ⟨_, rfl⟩
      rw [hq] at hsz hdec hle er hfr
      obtain ⟨s, hs⟩ : ∃ s, text q.1 q.2 = s := ⟨_, rfl⟩
      rw [hs] at hsz hdec er
      have hsr : s.size ≤ reachBytes := by rw [reach_eq]; omega
      have own5 : OwnS 1 σ5 v (ic X) X.length := own.keep fun b hb => s35.get b (h4 b hb).2.1
      refine loop1 (fun (k : Nat) (y : Int) σ' => y = k ∧ k ≤ X.length ∧ Mem.Only [r] σ5 σ' ∧ σ'.get r = some (rdP s (lays L X k).2)) (fun k => X.length - k) 0 ⟨rfl, by omega, ⟨by simp only [Mem.next_bump]; omega, fun _ _ _ => rfl⟩, er⟩ ?_
      rintro k _ σ6 ⟨rfl, hk, o6, e6⟩
      unfold F_law02_HuffBack_l1
      have n6 := o6.next
      have k6 : ∀ b, b < σ4.next → σ6.get b = σ5.get b := fun b hb => o6.get b (by omega) (by simp; omega)
      have own6 : OwnS 1 σ6 v (ic X) X.length := own5.keep fun b hb => k6 b (by have := (h4 b hb).2.1; omega)
      have hple := hfr k hk
      refine own6.rd.len ?_
      refine ifD (fun hlt => ?_) (fun hge => ?_)
      · have hkl : k < X.length := by omega
        have hd := hdec k hkl
        refine callW_of (huff_Next (σ := σ6.bump 12) hL (ht1.keep fun b h1 h2 => ?_) (by simp only [Mem.next_bump]; omega) (.inr (by omega)) hsr e6 (by omega)) ?_
        · rw [Mem.get_bump, k6 b (by omega), s15.get b (by omega)]
        rintro _ σ7 ⟨rfl, e7, o7⟩
        rw [hd] at e7 ⊢
        have n7 := o7.next
        simp only [Mem.next_bump] at n7
        have o57 : Mem.Only [r] σ5 σ7 := ⟨by omega, fun b h1 h2 => (o7.get b (by simp only [Mem.next_bump]; omega) h2).trans (o6.get b h1 h2)⟩
        have own7 : OwnS 1 σ7 v (ic X) X.length := own5.keep fun b hb => o57.get b (by have := (h4 b hb).2.1; omega) (by have := (h4 b hb).2.1; simp; omega)
        repeat (first | refine To.go ?_ | with_reducible refine And.intro (by first | omega | exact ⟨rfl, rfl⟩) ?_ | ((with_reducible apply opt); (· (first | with_reducible assumption | rfl))) | ((with_reducible apply ldrw); (· (first | with_reducible assumption | (simp (disch := omega) only [go_sem, *]; try rfl))); (· (first | with_reducible assumption | rfl))) | ((with_reducible apply ldro); (· (first | with_reducible assumption | (simp (disch := omega) only [go_sem, *]; try rfl))); (· (first | with_reducible assumption | rfl))) | ((with_reducible apply st1); (· (first | with_reducible assumption | (simp (disch := omega) only [go_sem, *]; try rfl))); (· simp); (· rfl)) | with_reducible refine ifT rfl ?_ | with_reducible refine ifF (not_not_intro rfl) ?_ | with_reducible refine ifT (by omega) ?_ | with_reducible refine ifF (by omega) ?_)
        obtain ⟨b, cc, rfl, hget⟩ := own7.rd.at hkl
        refine To.go ?_
        refine And.intro hkl ?_
        refine To.go ?_
        refine hget _ ?_
        repeat (first | refine To.go ?_ | with_reducible refine And.intro (by first | omega | exact ⟨rfl, rfl⟩) ?_ | ((with_reducible apply opt); (· (first | with_reducible assumption | rfl))) | ((with_reducible apply ldrw); (· (first | with_reducible assumption | (simp (disch := omega) only [go_sem, *]; try rfl))); (· (first | with_reducible assumption | rfl))) | ((with_reducible apply ldro); (· (first | with_reducible assumption | (simp (disch := omega) only [go_sem, *]; try rfl))); (· (first | with_reducible assumption | rfl))) | ((with_reducible apply st1); (· (first | with_reducible assumption | (simp (disch := omega) only [go_sem, *]; try rfl))); (· simp); (· rfl)) | with_reducible refine ifT rfl ?_ | with_reducible refine ifF (not_not_intro rfl) ?_ | with_reducible refine ifT (by omega) ?_ | with_reducible refine ifF (by omega) ?_)
        exact again ⟨k + 1, ⟨by omega, by omega, o57.bump _, e7⟩, by omega⟩
      · obtain rfl : k = X.length := by omega
        rw [hq] at e6 hple
        refine callW_of (bits_Reader_Left (σ := σ6.bump 11) hsr e6 (by omega)) ?_
        rintro _ σ8 ⟨rfl, s8⟩
        repeat (first | refine To.go ?_ | with_reducible refine And.intro (by first | omega | exact ⟨rfl, rfl⟩) ?_ | ((with_reducible apply opt); (· (first | with_reducible assumption | rfl))) | ((with_reducible apply ldrw); (· (first | with_reducible assumption | (simp (disch := omega) only [go_sem, *]; try rfl))); (· (first | with_reducible assumption | rfl))) | ((with_reducible apply ldro); (· (first | with_reducible assumption | (simp (disch := omega) only [go_sem, *]; try rfl))); (· (first | with_reducible assumption | rfl))) | ((with_reducible apply st1); (· (first | with_reducible assumption | (simp (disch := omega) only [go_sem, *]; try rfl))); (· simp); (· rfl)) | with_reducible refine ifT rfl ?_ | with_reducible refine ifF (not_not_intro rfl) ?_ | with_reducible refine ifT (by omega) ?_ | with_reducible refine ifF (by omega) ?_)
        refine callW_of (law02_awake _) ?_
        rintro v σ8 ⟨rfl, rfl⟩
        repeat (first | refine To.go ?_ | with_reducible refine And.intro (by first | omega | exact ⟨rfl, rfl⟩) ?_ | ((with_reducible apply opt); (· (first | with_reducible assumption | rfl))) | ((with_reducible apply ldrw); (· (first | with_reducible assumption | (simp (disch := omega) only [go_sem, *]; try rfl))); (· (first | with_reducible assumption | rfl))) | ((with_reducible apply ldro); (· (first | with_reducible assumption | (simp (disch := omega) only [go_sem, *]; try rfl))); (· (first | with_reducible assumption | rfl))) | ((with_reducible apply st1); (· (first | with_reducible assumption | (simp (disch := omega) only [go_sem, *]; try rfl))); (· simp); (· rfl)) | with_reducible refine ifT rfl ?_ | with_reducible refine ifF (not_not_intro rfl) ?_ | with_reducible refine ifT (by omega) ?_ | with_reducible refine ifF (by omega) ?_)
        exact rfl
  · rw [p1 hc]
    have hC : chk L = 1 ∨ chk L = 10 ∨ chk L = 11 ∨ chk L = 0 := by
      unfold chk
      split
      · exact .inl rfl
      · split
        · exact .inr (.inl rfl)
        · split
          · exact .inr (.inr (.inl rfl))
          · exact .inr (.inr (.inr rfl))
    rcases hC with h | h | h | h
    · rw [h]
      repeat (first | refine To.go ?_ | with_reducible refine And.intro (by first | omega | exact ⟨rfl, rfl⟩) ?_ | ((with_reducible apply opt); (· (first | with_reducible assumption | rfl))) | ((with_reducible apply ldrw); (· (first | with_reducible assumption | (simp (disch := omega) only [go_sem, *]; try rfl))); (· (first | with_reducible assumption | rfl))) | ((with_reducible apply ldro); (· (first | with_reducible assumption | (simp (disch := omega) only [go_sem, *]; try rfl))); (· (first | with_reducible assumption | rfl))) | ((with_reducible apply st1); (· (first | with_reducible assumption | (simp (disch := omega) only [go_sem, *]; try rfl))); (· simp); (· rfl)) | with_reducible refine ifT rfl ?_ | with_reducible refine ifF (not_not_intro rfl) ?_ | with_reducible refine ifT (by omega) ?_ | with_reducible refine ifF (by omega) ?_)
      refine callW_of (law02_awake _) ?_
      rintro v σ8 ⟨rfl, rfl⟩
      repeat (first | refine To.go ?_ | with_reducible refine And.intro (by first | omega | exact ⟨rfl, rfl⟩) ?_ | ((with_reducible apply opt); (· (first | with_reducible assumption | rfl))) | ((with_reducible apply ldrw); (· (first | with_reducible assumption | (simp (disch := omega) only [go_sem, *]; try rfl))); (· (first | with_reducible assumption | rfl))) | ((with_reducible apply ldro); (· (first | with_reducible assumption | (simp (disch := omega) only [go_sem, *]; try rfl))); (· (first | with_reducible assumption | rfl))) | ((with_reducible apply st1); (· (first | with_reducible assumption | (simp (disch := omega) only [go_sem, *]; try rfl))); (· simp); (· rfl)) | with_reducible refine ifT rfl ?_ | with_reducible refine ifF (not_not_intro rfl) ?_ | with_reducible refine ifT (by omega) ?_ | with_reducible refine ifF (by omega) ?_)
      exact rfl
    · rw [h]
      repeat (first | refine To.go ?_ | with_reducible refine And.intro (by first | omega | exact ⟨rfl, rfl⟩) ?_ | ((with_reducible apply opt); (· (first | with_reducible assumption | rfl))) | ((with_reducible apply ldrw); (· (first | with_reducible assumption | (simp (disch := omega) only [go_sem, *]; try rfl))); (· (first | with_reducible assumption | rfl))) | ((with_reducible apply ldro); (· (first | with_reducible assumption | (simp (disch := omega) only [go_sem, *]; try rfl))); (· (first | with_reducible assumption | rfl))) | ((with_reducible apply st1); (· (first | with_reducible assumption | (simp (disch := omega) only [go_sem, *]; try rfl))); (· simp); (· rfl)) | with_reducible refine ifT rfl ?_ | with_reducible refine ifF (not_not_intro rfl) ?_ | with_reducible refine ifT (by omega) ?_ | with_reducible refine ifF (by omega) ?_)
      refine callW_of (law02_awake _) ?_
      rintro v σ8 ⟨rfl, rfl⟩
      repeat (first | refine To.go ?_ | with_reducible refine And.intro (by first | omega | exact ⟨rfl, rfl⟩) ?_ | ((with_reducible apply opt); (· (first | with_reducible assumption | rfl))) | ((with_reducible apply ldrw); (· (first | with_reducible assumption | (simp (disch := omega) only [go_sem, *]; try rfl))); (· (first | with_reducible assumption | rfl))) | ((with_reducible apply ldro); (· (first | with_reducible assumption | (simp (disch := omega) only [go_sem, *]; try rfl))); (· (first | with_reducible assumption | rfl))) | ((with_reducible apply st1); (· (first | with_reducible assumption | (simp (disch := omega) only [go_sem, *]; try rfl))); (· simp); (· rfl)) | with_reducible refine ifT rfl ?_ | with_reducible refine ifF (not_not_intro rfl) ?_ | with_reducible refine ifT (by omega) ?_ | with_reducible refine ifF (by omega) ?_)
      exact rfl
    · rw [h]
      repeat (first | refine To.go ?_ | with_reducible refine And.intro (by first | omega | exact ⟨rfl, rfl⟩) ?_ | ((with_reducible apply opt); (· (first | with_reducible assumption | rfl))) | ((with_reducible apply ldrw); (· (first | with_reducible assumption | (simp (disch := omega) only [go_sem, *]; try rfl))); (· (first | with_reducible assumption | rfl))) | ((with_reducible apply ldro); (· (first | with_reducible assumption | (simp (disch := omega) only [go_sem, *]; try rfl))); (· (first | with_reducible assumption | rfl))) | ((with_reducible apply st1); (· (first | with_reducible assumption | (simp (disch := omega) only [go_sem, *]; try rfl))); (· simp); (· rfl)) | with_reducible refine ifT rfl ?_ | with_reducible refine ifF (not_not_intro rfl) ?_ | with_reducible refine ifT (by omega) ?_ | with_reducible refine ifF (by omega) ?_)
      refine callW_of (law02_awake _) ?_
      rintro v σ8 ⟨rfl, rfl⟩
      repeat (first | refine To.go ?_ | with_reducible refine And.intro (by first | omega | exact ⟨rfl, rfl⟩) ?_ | ((with_reducible apply opt); (· (first | with_reducible assumption | rfl))) | ((with_reducible apply ldrw); (· (first | with_reducible assumption | (simp (disch := omega) only [go_sem, *]; try rfl))); (· (first | with_reducible assumption | rfl))) | ((with_reducible apply ldro); (· (first | with_reducible assumption | (simp (disch := omega) only [go_sem, *]; try rfl))); (· (first | with_reducible assumption | rfl))) | ((with_reducible apply st1); (· (first | with_reducible assumption | (simp (disch := omega) only [go_sem, *]; try rfl))); (· simp); (· rfl)) | with_reducible refine ifT rfl ?_ | with_reducible refine ifF (not_not_intro rfl) ?_ | with_reducible refine ifT (by omega) ?_ | with_reducible refine ifF (by omega) ?_)
      exact rfl
    · exact absurd h hc
end Go.Vit
