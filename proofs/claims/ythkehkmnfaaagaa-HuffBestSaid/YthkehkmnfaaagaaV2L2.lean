/- HuffBest. -/
import Derived.Test.YthkehkmnfaaagaaV2L1
import Derived.Test.YthkehkmnfaaagaaVH1
set_option linter.unusedVariables false
set_option linter.unusedSimpArgs false
set_option linter.unusedSimpArgs false
set_option maxRecDepth 20000
namespace Go.Vit
open Go.Proofs
theorem isum_bd {f : Nat → Int} {b : Int} : ∀ {n : Nat}, (∀ i < n, 0 ≤ f i ∧ f i ≤ b) → 0 ≤ isum f n ∧ isum f n ≤ n * b
  | 0, _ => by simp [isum]
  | n + 1, h => by
    have ih := isum_bd (n := n) fun i hi => h i (by omega)
    have hn := h n (by omega)
    rw [isum, show ((n + 1 : Nat) : Int) * b = n * b + b from by push_cast; rw [Int.add_mul, Int.one_mul]]
    omega
theorem not_bad {most : Int} {L : List Int} (h : ¬ badL most L) : 1 ≤ most ∧ most ≤ 15 ∧ L.length ≤ 288 ∧ (∀ n ∈ L, 0 ≤ n ∧ n ≤ 1000000000) ∧ (coinsOf L).length ≤ 2 ^ most.toNat := by
  unfold badL at h
  refine ⟨?_, ?_, ?_, fun n hn => ?_, ?_⟩
  · exact Int.not_lt.1 fun h' => h (.inl (by omega))
  · exact Int.not_lt.1 fun h' => h (.inr (.inl h'))
  · exact Nat.not_lt.1 fun h' => h (.inr (.inr (.inl h')))
  · have : ¬ (n < 0 ∨ 1000000000 < n) := fun h' => h (.inr (.inr (.inr (.inl ⟨n, hn, h'⟩))))
    omega
  · exact Nat.not_lt.1 fun h' => h (.inr (.inr (.inr (.inr h'))))
theorem ifN {b : Bool} {x y : Prop} (h : b = true) (hy : y) : ifB (!b) x y := by rw [h]; exact hy
theorem terms_bd {l L : List Int} (h1 : ∀ i, i < L.length → 0 ≤ l.getD i 0 ∧ l.getD i 0 ≤ 15) (h2 : ∀ i, i < L.length → 0 ≤ L.getD i 0 ∧ L.getD i 0 ≤ 1000000000) (h3 : L.length ≤ 288) :
    (∀ i, i < L.length → 0 ≤ l.getD i 0 * L.getD i 0 ∧ l.getD i 0 * L.getD i 0 ≤ 15000000000) ∧ ∀ i, i ≤ L.length → 0 ≤ isum (fun i => l.getD i 0 * L.getD i 0) i ∧ isum (fun i => l.getD i 0 * L.getD i 0) i ≤ 288 * 15000000000 := by
  have hterm : ∀ i, i < L.length → 0 ≤ l.getD i 0 * L.getD i 0 ∧ l.getD i 0 * L.getD i 0 ≤ 15000000000 := fun i hi =>
    ⟨Int.mul_nonneg (h1 i hi).1 (h2 i hi).1, Int.le_trans (Int.mul_le_mul (h1 i hi).2 (h2 i hi).2 (h2 i hi).1 (by decide)) (by decide)⟩
  refine ⟨hterm, fun i hi => ?_⟩
  have := isum_bd (f := fun i => l.getD i 0 * L.getD i 0) (b := 15000000000) (n := i) fun j hj => hterm j (by omega)
  have h2 : ((i : Nat) : Int) * 15000000000 ≤ 288 * 15000000000 := by omega
  exact ⟨this.1, Int.le_trans this.2 h2⟩
theorem law02_HuffBest (σ : Mem) (l : List AV) (_ : σ.Ro) (hw : Wts PG σ Try.f6.params.toList l) : ACalls PG n_law02_HuffBest l σ fun v _ => isTrue v := by
  obtain ⟨n, a, L, rfl, ha, hl, hn⟩ := args_nL (show Wts PG σ [3, 22] l by rw [Try.params6] at hw; exact hw)
  clear hw
  refine ok_law02_HuffBest fun live => ?_
  unfold F_law02_HuffBest
  have hla := ha.lt live
  refine callW_of (huff_Limit (σ := σ.bump 9) (L := L) (ha.o.keep fun _ _ => rfl) hl) ?_
  rintro _ σ1 ⟨c, rfl, s1, h1⟩
  replace s1' := s1.ob
  refine tupW_of rfl ?_
  refine tpI_of rfl ?_
  rcases h1 with ⟨hb, rfl⟩ | ⟨hb, rc, bc⟩
  · rw [if_pos hb]
    refine ifT (by decide) ?_
    refine ifT rfl ?_
    refine To.go ?_
    refine ifT rfl ?_
    refine callW_of (law02_awake _) ?_
    rintro v σ8 ⟨rfl, rfl⟩
    refine To.go ?_
    exact rfl
  rw [if_neg hb]
  obtain ⟨b1, b2, b3, b4, b5⟩ := not_bad hb
  refine ifF (by decide) ?_
  obtain ⟨mt, hmt⟩ : ∃ mt : Nat, n = mt := ⟨n.toNat, by omega⟩
  subst hmt
  rw [Int.toNat_natCast] at rc b5
  obtain ⟨l, hle⟩ : ∃ l, limit mt L = l := ⟨_, rfl⟩
  have hll : l.length = L.length := by rw [← hle, limit_len]
  have hall := fun i hi => limit_all (most := mt) (L := L) (by omega) b5 (i := i) hi
  have hchk := limit_chk (most := mt) (L := L) (by omega) (by omega) b3 b5
  rw [hle] at rc hall hchk
  rw [← hll] at rc
  have fa : ∀ {σ' : Mem}, σ.Same σ' → ∀ x ∈ blkOf a, σ'.get x = σ.get x := fun s x hx => s.get x (hla x hx)
  have fc : ∀ {σ' : Mem}, σ1.Same σ' → ∀ x ∈ blkOf c, σ'.get x = σ1.get x := fun s x hx => s.get x (bc x hx).2
  refine rc.len ?_
  refine (ha.keep (fa s1')).len ?_
  refine ifF (by omega) ?_
  refine callW_of (huff_Check (σ := σ1.bump 12) (rc.keep fun _ _ => rfl) (by omega)) ?_
  rintro _ σ2 ⟨rfl, s2⟩
  replace s2 := s2.ob
  rw [hchk]
  refine To.go ?_
  refine ifF (by decide) ?_
  have s02 := s1'.trans s2
  have hLb : ∀ i, i < L.length → 0 ≤ L.getD i 0 ∧ L.getD i 0 ≤ 1000000000 := fun i hi => b4 _ (by rw [getD_of hi]; exact List.getElem_mem hi)
  obtain ⟨hterm, hsum⟩ := terms_bd (l := l) (L := L) (fun i hi => ⟨(hall i hi).2.1, by have := (hall i hi).2.2.1; omega⟩) hLb b3
  refine loop2 (fun (i : Nat) (x y : Int) σ' => x = isum (fun i => l.getD i 0 * L.getD i 0) i ∧ y = i ∧ i ≤ L.length ∧ σ1.Same σ') (fun i => L.length - i) 0 ⟨rfl, rfl, by omega, s2.bump _⟩ ?_
  rintro i _ _ σ3 ⟨rfl, rfl, hi, s3⟩
  unfold F_law02_HuffBest_l1
  have s03 := s1'.trans s3
  refine (rc.keep (fc s3)).len ?_
  refine ifD (fun hlt => ?_) (fun hge => ?_)
  · have hiL : i < L.length := by omega
    have hil : i < l.length := by omega
    have hi1 := hall i hiL
    have hi2 := hLb i hiL
    have hi3 := hterm i hiL
    have hi4 := hsum i hi
    have hi5 : isum (fun i => l.getD i 0 * L.getD i 0) (i + 1) = isum (fun i => l.getD i 0 * L.getD i 0) i + l.getD i 0 * L.getD i 0 := rfl
    obtain ⟨S, hS⟩ : ∃ S, isum (fun i => l.getD i 0 * L.getD i 0) i = S := ⟨_, rfl⟩
    obtain ⟨u, hu⟩ : ∃ u, l.getD i 0 = u := ⟨_, rfl⟩
    obtain ⟨v, hv⟩ : ∃ v, L.getD i 0 = v := ⟨_, rfl⟩
    rw [hS] at hi4 hi5 ⊢
    rw [hu] at hi1 hi3 hi5
    rw [hv] at hi1 hi2 hi3 hi5
    refine rc.o.rd (i := i) (fc (s3.bump _)) hil rfl ?_
    refine ha.o.rd (i := i) (fa (s03.bump _)) hiL rfl ?_
    rw [hu, hv]
    have hd : decide (0 < u) = decide (0 < v) := decide_eq_decide.2 hi1.1
    rw [hd]
    refine To.go ?_
    refine ifN (beq_self_eq_true _) ?_
    refine rc.o.rd (i := i) (fc (s3.bump _)) hil rfl ?_
    rw [hu]
    refine ifF (by omega) ?_
    refine rc.o.rd (i := i) (fc (s3.bump _)) hil rfl ?_
    refine ha.o.rd (i := i) (fa (s03.bump _)) hiL rfl ?_
    rw [hu, hv]
    have hi6 := hsum (i + 1) (by omega)
    rw [hi5] at hi6
    obtain ⟨p, hp⟩ : ∃ p, u * v = p := ⟨_, rfl⟩
    rw [hp] at hi3 hi5 hi6 ⊢
    refine iW_of (by omega) ?_
    refine iW_of (by omega) ?_
    refine loop1 (fun (k : Nat) (y : Int) σ' => y = k ∧ k ≤ L.length ∧ σ1.Same σ') (fun k => L.length - k) 0 ⟨rfl, by omega, s3.bump _⟩ ?_
    rintro k _ σ4 ⟨rfl, hk, s4⟩
    unfold F_law02_HuffBest_l2
    have s04 := s1'.trans s4
    refine (rc.keep (fc s4)).len ?_
    refine ifD (fun hlt' => ?_) (fun hge' => ?_)
    · have hkL : k < L.length := by omega
      have hkl : k < l.length := by omega
      have next : Again (∃ j : Nat, ((((k : Nat) : Int) + 1) = (j : Nat) ∧ j ≤ L.length ∧ σ1.Same (σ4.bump 34)) ∧ L.length - j < L.length - k) := again ⟨k + 1, ⟨by omega, by omega, s4.bump _⟩, by omega⟩
      refine ha.o.rd (i := i) (fa (s04.bump _)) hiL rfl ?_
      refine ha.o.rd (i := k) (fa (s04.bump _)) hkL rfl ?_
      rw [hv]
      refine ifD (fun h5 => ?_) (fun h5 => ?_)
      · refine ha.o.rd (i := k) (fa (s04.bump _)) hkL rfl ?_
        refine ifD (fun h6 => ?_) (fun h6 => ?_)
        · refine rc.o.rd (i := i) (fc (s4.bump _)) hil rfl ?_
          refine rc.o.rd (i := k) (fc (s4.bump _)) hkl rfl ?_
          rw [hu]
          refine ifF (by have := hi1.2.2.2 k hkL h5 h6; omega) ?_
          refine iW_of (by omega) ?_
          exact next
        · refine iW_of (by omega) ?_
          exact next
      · refine iW_of (by omega) ?_
        exact next
    · refine iW_of (by omega) ?_
      exact again ⟨i + 1, ⟨hi5.symm, by omega, by omega, s4.bump _⟩, by omega⟩
  · obtain rfl : i = L.length := by omega
    refine ifD (fun h15 => ?_) (fun h15 => ?_)
    · refine iW_of (by omega) ?_
      have hb' : ¬ badL (((mt : Nat) : Int) + 1) L := by
        rintro (h | h | h | ⟨x, hx, h⟩ | h)
        · omega
        · omega
        · omega
        · have := b4 x hx; omega
        · rw [show (((mt : Nat) : Int) + 1).toNat = mt + 1 from by omega, Nat.pow_succ] at h; omega
      obtain ⟨_, _, _, _, b5'⟩ := not_bad hb'
      refine callW_of (huff_Limit (σ := σ3.bump 15) (L := L) (ha.o.keep fun b hb => fa s03 b hb) hl) ?_
      rintro _ σ5 ⟨d, rfl, s5, h5⟩
      replace s5 := s5
      refine tupW_of rfl ?_
      refine tpI_of rfl ?_
      rcases h5 with ⟨h, _⟩ | ⟨_, rd, bd⟩
      · exact absurd h hb'
      rw [if_neg hb']
      refine ifF (by decide) ?_
      rw [show (((mt : Nat) : Int) + 1).toNat = mt + 1 from by omega] at rd b5'
      have hcost := limit_cost (most := mt) (L := L) (by omega) b5
      obtain ⟨l', hle'⟩ : ∃ l', limit (mt + 1) L = l' := ⟨_, rfl⟩
      have hll' : l'.length = L.length := by rw [← hle', limit_len]
      have hall' := fun i hi => limit_all (most := mt + 1) (L := L) (by omega) b5' (i := i) hi
      rw [hle', hle] at hcost
      rw [hle'] at rd hall'
      rw [← hll'] at rd
      obtain ⟨hterm', hsum'⟩ := terms_bd (l := l') (L := L) (fun i hi => ⟨(hall' i hi).2.1, by have := (hall' i hi).2.2.1; omega⟩) hLb b3
      have fd : ∀ {σ' : Mem}, σ5.Same σ' → ∀ x ∈ blkOf d, σ'.get x = σ5.get x := fun s x hx => s.get x (bd x hx).2
      have s05 := s03.trans s5.ob
      have s15 := s3.trans s5.ob
      refine rd.len ?_
      refine (rc.keep (fc s15)).len ?_
      refine ifF (by omega) ?_
      refine loop2 (fun (i : Nat) (x y : Int) σ' => x = isum (fun i => l'.getD i 0 * L.getD i 0) i ∧ y = i ∧ i ≤ L.length ∧ σ5.Same σ') (fun i => L.length - i) 0 ⟨rfl, rfl, by omega, (Mem.Same.refl σ5).bump _⟩ ?_
      rintro i _ _ σ6 ⟨rfl, rfl, hi, s6⟩
      unfold F_law02_HuffBest_l3
      have s06 := s05.trans s6
      refine (rd.keep (fd s6)).len ?_
      refine ifD (fun hlt' => ?_) (fun hge' => ?_)
      · have hiL : i < L.length := by omega
        have hil : i < l'.length := by omega
        have hi3 := hterm' i hiL
        have hi4 := hsum' i hi
        have hi6 := hsum' (i + 1) (by omega)
        have hi5 : isum (fun i => l'.getD i 0 * L.getD i 0) (i + 1) = isum (fun i => l'.getD i 0 * L.getD i 0) i + l'.getD i 0 * L.getD i 0 := rfl
        obtain ⟨S, hS⟩ : ∃ S, isum (fun i => l'.getD i 0 * L.getD i 0) i = S := ⟨_, rfl⟩
        rw [hS] at hi4 hi5 ⊢
        rw [hi5] at hi6
        refine rd.o.rd (i := i) (fd (s6.bump _)) hil rfl ?_
        refine ha.o.rd (i := i) (fa (s06.bump _)) hiL rfl ?_
        obtain ⟨p, hp⟩ : ∃ p, l'.getD i 0 * L.getD i 0 = p := ⟨_, rfl⟩
        rw [hp] at hi3 hi5 hi6 ⊢
        refine iW_of (by omega) ?_
        refine iW_of (by omega) ?_
        refine iW_of (by omega) ?_
        exact again ⟨i + 1, ⟨hi5.symm, by omega, by omega, s6.bump _⟩, by omega⟩
      · obtain rfl : i = L.length := by omega
        refine ifT hcost ?_
        refine callW_of (law02_awake _) ?_
        rintro v σ8 ⟨rfl, rfl⟩
        refine To.go ?_
        exact rfl
    · refine callW_of (law02_awake _) ?_
      rintro v σ8 ⟨rfl, rfl⟩
      refine To.go ?_
      exact rfl
end Go.Vit
