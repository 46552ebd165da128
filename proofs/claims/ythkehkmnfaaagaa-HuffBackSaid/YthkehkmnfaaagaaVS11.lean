/- Symbols are laid. -/
import Derived.Test.YthkehkmnfaaagaaVS9
import Derived.Test.YthkehkmnfaaagaaV2B2
set_option linter.unusedVariables false
set_option linter.unusedSimpArgs false
set_option linter.unusedSimpArgs false
set_option maxRecDepth 20000
namespace Go.Vit
open Go.Proofs
/-- The last k bits of a code are laid. -/
def layC (p : Nat × Nat) (c : Nat) : Nat → Nat × Nat
  | 0 => p
  | k + 1 => layC (lay p.1 p.2 ((c / 2 ^ k : Nat) : Int) 1) c k
def hasS (L : List Int) (x : Int) : Prop := 0 ≤ x ∧ x < L.length ∧ L.getD x.toNat 0 ≠ 0
instance (L : List Int) (x : Int) : Decidable (hasS L x) := by unfold hasS; infer_instance
def layS (L : List Int) (p : Nat × Nat) (x : Int) : Nat × Nat := if hasS L x then layC p (cd L x.toNat) (L.getD x.toNat 0).toNat else p
def layE (L : List Int) (x : Int) : Int := if hasS L x then 0 else 1
theorem lay_one (p : Nat × Nat) (v : Int) : (lay p.1 p.2 v 1).2 = p.2 + 1 := by
  unfold lay; rw [if_neg (by omega)]; rfl
theorem layC_len (c : Nat) : ∀ (k : Nat) (p : Nat × Nat), (layC p c k).2 = p.2 + k
  | 0, _ => rfl
  | k + 1, p => by rw [layC, layC_len c k, lay_one]; omega
theorem huff_Lay {lo hi t w : Nat} {o : List Nat} {L : List Int} {p : Nat × Nat} {x : Int} {σ : Mem} (hL : lens L) (ht : TabB lo hi L σ t) (hhi : hi ≤ σ.next) (ho : ∀ b ∈ o, b < lo ∨ hi ≤ b) (h : WrP σ w o p.1 p.2) (hN : p.2 ≤ 2 ^ 39) :
    ACalls PG n_huff_Table_Lay [.ptr t 0, .ptr w 0, .int .i64 x] σ fun v σ' => v = .int .i64 (layE L x) ∧ ∃ o', WrP σ' w o' (layS L p x).1 (layS L p x).2 ∧ Grow o o' σ σ' := by
  refine ok_huff_Table_Lay fun live => ?_
  unfold F_huff_Table_Lay
  have hL1 := hL.1
  have hol : ∀ b ∈ o, b < σ.next := h.2.lt live
  have htk : ∀ o' σ', Grow o o' σ σ' → TabB lo hi L σ' t := fun o' σ' g => ht.keep fun b h1 h2 => g.only.get b (by omega) fun hb => by have := ho b hb; omega
  obtain ⟨l, c, s, T, g1, rl, rc, _⟩ := ht
  have g0 : Grow o o σ σ := Grow.refl hol
  have nope : ∀ k, ¬ hasS L x → (fun (v : AV) (σ' : Mem) => v = .int .i64 (layE L x) ∧ ∃ o', WrP σ' w o' (layS L p x).1 (layS L p x).2 ∧ Grow o o' σ σ') (.int .i64 1) (σ.bump k) := by
    intro k hn
    unfold layE layS
    rw [if_neg hn, if_neg hn]
    exact ⟨rfl, o, h.keep fun _ _ => rfl, g0.bump k⟩
  repeat (first | refine To.go ?_ | with_reducible refine And.intro (by first | omega | exact ⟨rfl, rfl⟩) ?_ | ((with_reducible apply opt); (· (first | with_reducible assumption | rfl))) | ((with_reducible apply ldrw); (· (first | with_reducible assumption | (simp (disch := omega) only [go_sem, *]; try rfl))); (· (first | with_reducible assumption | rfl))) | ((with_reducible apply ldro); (· (first | with_reducible assumption | (simp (disch := omega) only [go_sem, *]; try rfl))); (· (first | with_reducible assumption | rfl))) | ((with_reducible apply st1); (· (first | with_reducible assumption | (simp (disch := omega) only [go_sem, *]; try rfl))); (· simp); (· rfl)) | with_reducible refine ifT rfl ?_ | with_reducible refine ifF (not_not_intro rfl) ?_ | with_reducible refine ifT (by omega) ?_ | with_reducible refine ifF (by omega) ?_)
  refine ifD (fun hlt => ?_) (fun hge => ?_)
  · exact nope _ fun hs => by have := hs.1; omega
  obtain ⟨i, rfl⟩ := int_nat (by omega : 0 ≤ x)
  refine To.go ?_
  refine To.go ?_
  refine ldrw (v := l) g1 rfl ?_
  refine rl.len ?_
  refine ifD (fun hlt => ?_) (fun hge => ?_)
  · exact nope _ fun hs => by have := hs.2.1; omega
  have hil : i < L.length := by omega
  have hgd := getD_of hil
  have hx := hL.2 _ (List.getElem_mem hil)
  obtain ⟨b, ca, rfl, hget⟩ := rl.at hil
  refine To.go ?_
  refine To.go ?_
  refine ldrw (v := .slice b 0 L.length ca) g1 rfl ?_
  refine To.go ?_
  refine And.intro hil ?_
  refine To.go ?_
  refine hget _ ?_
  obtain ⟨y, hy⟩ : ∃ y, L[i] = y := ⟨_, rfl⟩
  rw [hy] at hgd hx ⊢
  refine To.go ?_
  refine ifD (fun h0 => ?_) (fun h0 => ?_)
  · refine nope _ fun hs => hs.2.2 ?_
    rw [Int.toNat_natCast, hgd]; exact h0
  obtain ⟨n, rfl⟩ := int_nat hx.1
  have hhas : hasS L (i : Int) := ⟨by omega, by omega, by rw [Int.toNat_natCast, hgd]; exact h0⟩
  have hlay : layS L p (i : Int) = layC p (cd L i) n := by unfold layS; rw [if_pos hhas, Int.toNat_natCast, hgd, Int.toNat_natCast]
  have hE : layE L (i : Int) = 0 := if_pos hhas
  have hcd := cd_le hL i
  rw [hlay, hE]
  refine To.go ?_
  refine ldrw (v := .slice b 0 L.length ca) g1 rfl ?_
  refine To.go ?_
  refine And.intro hil ?_
  refine To.go ?_
  refine hget _ ?_
  rw [hy]
  refine To.go ?_
  refine iW_of (by omega) ?_
  refine loop1 (fun (k : Nat) (j : Int) σ' => j = (k : Int) - 1 ∧ k ≤ n ∧ ∃ q o', layC q (cd L i) k = layC p (cd L i) n ∧ q.2 + k = p.2 + n ∧ WrP σ' w o' q.1 q.2 ∧ Grow o o' σ σ') (fun k => k) n ⟨rfl, Nat.le_refl _, p, o, rfl, rfl, h.keep fun _ _ => rfl, g0.bump _⟩ ?_
  rintro k _ σ1 ⟨rfl, hk, q, o1, hq, hq2, w1, gr1⟩
  unfold F_huff_Table_Lay_l1
  obtain ⟨l', c', s', T', g1', _, rc', _⟩ := htk o1 σ1 gr1
  refine ifD (fun hlt => ?_) (fun hge => ?_)
  · obtain ⟨k, rfl⟩ : ∃ k', k = k' + 1 := ⟨k - 1, by omega⟩
    have hcl := codes_len L
    obtain ⟨bc, cc, rfl, hgetc⟩ := rc'.iat (L := codes L) (i := i) (x := (cd L i : Nat)) (by unfold codes arr; rw [List.getElem?_map, List.getElem?_range hil]; rfl) hil (by omega)
    have hdl : cd L i / 2 ^ k ≤ cd L i := Nat.div_le_self _ _
    refine To.go ?_
    refine ldrw (v := .slice bc 0 L.length cc) g1' rfl ?_
    refine To.go ?_
    refine And.intro hil ?_
    refine To.go ?_
    refine hgetc _ ?_
    refine To.go ?_
    refine To.go ?_
    refine And.intro (by omega) ?_
    rw [show (((k + 1 : Nat) : Int) - 1).toNat = k from by omega, show ((cd L i : Nat) : Int) / 2 ^ k = ((cd L i / 2 ^ k : Nat) : Int) from by push_cast; rfl]
    obtain ⟨z, hz⟩ : ∃ z, cd L i / 2 ^ k = z := ⟨_, rfl⟩
    rw [layC, hz] at hq
    rw [hz] at hdl ⊢
    refine callW_of (bits_Writer_Bits (σ := σ1.bump 13) (w1.keep fun _ _ => rfl) (by omega) (by omega) (by omega)) ?_
    rintro _ σ2 ⟨rfl, o2, w2, gr2⟩
    refine iW_of (by omega) ?_
    refine again ⟨k, ⟨by omega, by omega, _, o2, hq, ?_, w2.keep fun _ _ => rfl, (gr1.trans gr2.ob).bump _⟩, by omega⟩
    rw [lay_one]; omega
  · obtain rfl : k = 0 := by omega
    rw [← hq]
    exact ⟨rfl, o1, w1.keep fun _ _ => rfl, gr1.bump _⟩
theorem ref02_Lay {lo hi t w : Nat} {o : List Nat} {L : List Int} {p : Nat × Nat} {x : Int} {σ : Mem} (hL : lens L) (ht : TabR lo hi L σ t) (hhi : hi ≤ σ.next) (ho : ∀ b ∈ o, b < lo ∨ hi ≤ b) (h : WrR σ w o p.1 p.2) (hN : p.2 ≤ 2 ^ 39) :
    ACalls PG n_ref02_Table_Lay [.ptr t 0, .ptr w 0, .int .i64 x] σ fun v σ' => v = .int .i64 (layE L x) ∧ ∃ o', WrR σ' w o' (layS L p x).1 (layS L p x).2 ∧ Grow o o' σ σ' := by
  refine ok_ref02_Table_Lay fun live => ?_
  unfold F_ref02_Table_Lay
  have hL1 := hL.1
  have hol : ∀ b ∈ o, b < σ.next := h.lt live
  have htk : ∀ o' σ', Grow o o' σ σ' → TabR lo hi L σ' t := fun o' σ' g => ht.keep fun b h1 h2 => g.only.get b (by omega) fun hb => by have := ho b hb; omega
  obtain ⟨l, c, g1, rl, rc, _⟩ := ht
  have g0 : Grow o o σ σ := Grow.refl hol
  have nope : ∀ k, ¬ hasS L x → (fun (v : AV) (σ' : Mem) => v = .int .i64 (layE L x) ∧ ∃ o', WrR σ' w o' (layS L p x).1 (layS L p x).2 ∧ Grow o o' σ σ') (.int .i64 1) (σ.bump k) := by
    intro k hn
    unfold layE layS
    rw [if_neg hn, if_neg hn]
    exact ⟨rfl, o, h.keep fun _ _ => rfl, g0.bump k⟩
  refine ifD (fun hlt => ?_) (fun hge => ?_)
  · exact nope _ fun hs => by have := hs.1; omega
  obtain ⟨i, rfl⟩ := int_nat (by omega : 0 ≤ x)
  refine To.go ?_
  refine To.go ?_
  refine ldrw (v := l) g1 rfl ?_
  refine rl.len ?_
  refine ifD (fun hlt => ?_) (fun hge => ?_)
  · exact nope _ fun hs => by have := hs.2.1; omega
  have hil : i < L.length := by omega
  have hgd := getD_of hil
  have hx := hL.2 _ (List.getElem_mem hil)
  obtain ⟨b, ca, rfl, hget⟩ := rl.at hil
  refine To.go ?_
  refine To.go ?_
  refine ldrw (v := .slice b 0 L.length ca) g1 rfl ?_
  refine To.go ?_
  refine And.intro hil ?_
  refine To.go ?_
  refine hget _ ?_
  obtain ⟨y, hy⟩ : ∃ y, L[i] = y := ⟨_, rfl⟩
  rw [hy] at hgd hx ⊢
  refine To.go ?_
  refine ifD (fun h0 => ?_) (fun h0 => ?_)
  · refine nope _ fun hs => hs.2.2 ?_
    rw [Int.toNat_natCast, hgd]; exact h0
  obtain ⟨n, rfl⟩ := int_nat hx.1
  have hhas : hasS L (i : Int) := ⟨by omega, by omega, by rw [Int.toNat_natCast, hgd]; exact h0⟩
  have hlay : layS L p (i : Int) = layC p (cd L i) n := by unfold layS; rw [if_pos hhas, Int.toNat_natCast, hgd, Int.toNat_natCast]
  have hE : layE L (i : Int) = 0 := if_pos hhas
  have hcd := cd_le hL i
  rw [hlay, hE]
  refine To.go ?_
  refine ldrw (v := .slice b 0 L.length ca) g1 rfl ?_
  refine To.go ?_
  refine And.intro hil ?_
  refine To.go ?_
  refine hget _ ?_
  rw [hy]
  refine To.go ?_
  refine iW_of (by omega) ?_
  refine loop1 (fun (k : Nat) (j : Int) σ' => j = (k : Int) - 1 ∧ k ≤ n ∧ ∃ q o', layC q (cd L i) k = layC p (cd L i) n ∧ q.2 + k = p.2 + n ∧ WrR σ' w o' q.1 q.2 ∧ Grow o o' σ σ') (fun k => k) n ⟨rfl, Nat.le_refl _, p, o, rfl, rfl, h.keep fun _ _ => rfl, g0.bump _⟩ ?_
  rintro k _ σ1 ⟨rfl, hk, q, o1, hq, hq2, w1, gr1⟩
  unfold F_ref02_Table_Lay_l1
  obtain ⟨l', c', g1', _, rc', _⟩ := htk o1 σ1 gr1
  refine ifD (fun hlt => ?_) (fun hge => ?_)
  · obtain ⟨k, rfl⟩ : ∃ k', k = k' + 1 := ⟨k - 1, by omega⟩
    have hcl := codes_len L
    obtain ⟨bc, cc, rfl, hgetc⟩ := rc'.iat (L := codes L) (i := i) (x := (cd L i : Nat)) (by unfold codes arr; rw [List.getElem?_map, List.getElem?_range hil]; rfl) hil (by omega)
    have hdl : cd L i / 2 ^ k ≤ cd L i := Nat.div_le_self _ _
    refine To.go ?_
    refine ldrw (v := .slice bc 0 L.length cc) g1' rfl ?_
    refine To.go ?_
    refine And.intro hil ?_
    refine To.go ?_
    refine hgetc _ ?_
    refine To.go ?_
    refine To.go ?_
    refine And.intro (by omega) ?_
    rw [show (((k + 1 : Nat) : Int) - 1).toNat = k from by omega, show ((cd L i : Nat) : Int) / 2 ^ k = ((cd L i / 2 ^ k : Nat) : Int) from by push_cast; rfl]
    obtain ⟨z, hz⟩ : ∃ z, cd L i / 2 ^ k = z := ⟨_, rfl⟩
    rw [layC, hz] at hq
    rw [hz] at hdl ⊢
    refine callW_of (ref01_Writer_Bits (σ := σ1.bump 13) (w1.keep fun _ _ => rfl) (by omega) (by omega) (by omega)) ?_
    rintro _ σ2 ⟨rfl, o2, w2, gr2⟩
    refine iW_of (by omega) ?_
    refine again ⟨k, ⟨by omega, by omega, _, o2, hq, ?_, w2.keep fun _ _ => rfl, (gr1.trans gr2.ob).bump _⟩, by omega⟩
    rw [lay_one]; omega
  · obtain rfl : k = 0 := by omega
    rw [← hq]
    exact ⟨rfl, o1, w1.keep fun _ _ => rfl, gr1.bump _⟩
end Go.Vit
