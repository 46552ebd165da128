/- Symbols of tokens are laid. -/
import Derived.Test.YtcliekhikcaoiaaV5X4
set_option linter.unusedVariables false
set_option linter.unusedSimpArgs false
set_option linter.unusedSimpArgs false
set_option maxRecDepth 20000
namespace Go.Vit
open Go.Proofs
theorem laP_zero (p : Nat × Nat) : laP p 0 0 = p := by
  have := lay_zero p.1 p.2 (n := 0) (by decide)
  exact this
theorem layS_two {L : List Int} (hL : lens L) (p : Nat × Nat) (x : Int) : (layS L p x).2 ≤ p.2 + 15 ∧ p.2 ≤ (layS L p x).2 := by
  unfold layS
  split
  · rename_i h
    rw [layC_len]
    have := h.2.1
    have h2 := hL.2 (L.getD x.toNat 0) (by rw [getD_of (by have := h.1; omega)]; exact List.getElem_mem _)
    omega
  · omega
theorem Grow.from {o o' : List Nat} {σ σ1 σ' : Mem} (h : Grow o o' σ1 σ') (s : σ.Same σ1) : Grow o o' σ σ' :=
  ⟨⟨Nat.le_trans s.next h.only.next, fun b hb hn => (h.only.get b (Nat.lt_of_lt_of_le hb s.next) hn).trans (s.get b hb)⟩, fun b hb => (h.new b hb).imp id fun h => Nat.le_trans s.next h, h.lt⟩
theorem Grow.away {o o' : List Nat} {σ σ' : Mem} {lo hi : Nat} (h : Grow o o' σ σ') (ho : ∀ b ∈ o, b < lo ∨ hi ≤ b) (hhi : hi ≤ σ.next) : ∀ b ∈ o', b < lo ∨ hi ≤ b := by
  intro b hb
  rcases h.new b hb with h | h
  · exact ho b h
  · exact .inr (by omega)
theorem Grow.keepT {o o' : List Nat} {σ σ' : Mem} {lo hi t : Nat} {L : List Int} (h : Grow o o' σ σ') (ho : ∀ b ∈ o, b < lo ∨ hi ≤ b) (hhi : hi ≤ σ.next) (ht : TabB lo hi L σ t) : TabB lo hi L σ' t :=
  ht.keep fun b h1 h2 => h.only.get b (by omega) fun hb => by have := ho b hb; omega
theorem deflate_symbols_1 {lo hi t w cb n : Nat} {o : List Nat} {L : List Int} {p : Nat × Nat} {s v : Int} {σ : Mem} (hL : lens L) (ht : TabB lo hi L σ t) (hhi : hi ≤ σ.next) (ho : ∀ b ∈ o, b < lo ∨ hi ≤ b) (h : WrP σ w o p.1 p.2) (hN : p.2 ≤ 2 ^ 38)
    (hc : σ.get cb = some (.rw [.ptr w 0])) (hco : cb ∉ o) (hcl : cb < σ.next) (hv : -9223372036854775808 ≤ v ∧ v ≤ 9223372036854775807) :
    ACalls PG n_deflate_symbols_1 [.ptr t 0, part s v (n : Nat), .ptr cb 0] σ fun _ σ' => ∃ o', WrP σ' w o' (laP (layS L p s) v (n : Nat)).1 (laP (layS L p s) v (n : Nat)).2 ∧ Grow o o' σ σ' := by
  refine ok_deflate_symbols_1 fun live => ?_
  unfold F_deflate_symbols_1
  have hol := h.2.lt live
  refine boxW_agg rfl ?_
  refine To.go ?_
  obtain ⟨pb, hpb⟩ : ∃ pb, σ.next = pb := ⟨_, rfl⟩
  obtain ⟨σ1, h1⟩ : ∃ σ1, σ1 = ((σ.bump 1).put pb (some (.rw [.int .i64 s, .int .i64 v, .int .i64 (n : Nat)]))).bump 5 := ⟨_, rfl⟩
  rw [hpb, show (part s v (n : Nat)).cells = [.int .i64 s, .int .i64 v, .int .i64 (n : Nat)] from rfl, ← h1]
  have s1 : σ.Same σ1 := by rw [h1]; repeat (with_reducible first | assumption | exact Mem.Only.refl _ _ | exact Mem.Same.refl _ | refine Mem.Only.bump ?_ _ | refine Mem.Only.put ?_ (by simp) _ | refine Mem.Only.put ?_ (.inr (by first | omega | (simp only [Mem.next_bump, Mem.next_put]; omega))) _ | refine Mem.Same.bump ?_ _ | refine Mem.Same.put ?_ (by first | omega | (simp only [Mem.next_bump, Mem.next_put]; omega)) _)
  have g1 : σ1.get pb = some (.rw [.int .i64 s, .int .i64 v, .int .i64 (n : Nat)]) := by rw [h1]; exact gB gS'
  have n1 : σ1.next = σ.next + 6 := by rw [h1]; rfl
  clear h1
  have hpo : pb ∉ o := fun hb => by have := hol pb hb; omega
  refine ldrw (σ := σ1) ((s1.get cb hcl).trans hc) rfl ?_
  refine To.go ?_
  refine ldrw (σ := σ1) (K := fun a => castI .i64 a _) g1 (v := .int .i64 s) rfl ?_
  refine callW_of (huff_Lay (σ := σ1) (p := p) (o := o) hL (ht.keep fun b h1 h2 => s1.get b (by omega)) (by omega) ho (h.keep fun b hb => s1.get b (hol b hb)) (by omega)) ?_
  rintro _ σ2 ⟨rfl, o2, w2, gr2⟩
  refine To.go ?_
  obtain ⟨g2, g2'⟩ := gr2.apart (p := [pb, cb]) (fun b hb => by
    simp only [List.mem_cons, List.not_mem_nil, or_false] at hb
    rcases hb with rfl | rfl
    · exact ⟨by omega, hpo⟩
    · exact ⟨by omega, hco⟩)
  refine ldrw (σ := σ2.bump 6) (gB ((g2' cb (by simp)).trans ((s1.get cb hcl).trans hc))) rfl ?_
  refine To.go ?_
  refine ldrw (σ := σ2.bump 6) (K := fun a => castI .i64 a _) (gB ((g2' pb (by simp)).trans g1)) (v := .int .i64 v) rfl ?_
  refine To.go ?_
  refine ldrw (σ := σ2.bump 6) (K := fun a => castI .i64 a _) (gB ((g2' pb (by simp)).trans g1)) (v := .int .i64 (n : Nat)) rfl ?_
  have hb2 := layS_two hL p s
  refine callW_of (bits_Writer_Bits (σ := σ2.bump 6) (w2.keep fun _ _ => rfl) (by omega) hv.1 hv.2) ?_
  rintro _ σ3 ⟨rfl, o3, w3, gr3⟩
  exact ⟨o3, w3, (gr2.from s1).trans gr3.ob⟩
def layTok (L D : List Int) (p : Nat × Nat) (t : Tok) : Nat × Nat :=
  if t.2.1 = 0 then layS L p t.1 else
    laP (layS D (laP (layS L p (lenSym t.2.1.toNat : Nat)) (t.2.1.toNat - lenA (lenSym t.2.1.toNat) : Nat) (lenB (lenSym t.2.1.toNat) : Nat)) (disSym t.2.2.toNat : Nat)) (t.2.2.toNat - disS (disSym t.2.2.toNat) : Nat) (disB (disSym t.2.2.toNat) : Nat)
def layToks (L D : List Int) (p : Nat × Nat) (l : List Tok) : Nat × Nat := layS L (l.foldl (layTok L D) p) 256
def okT (t : Tok) : Prop := (t.2.1 = 0 ∧ 0 ≤ t.1 ∧ t.1 ≤ 255) ∨ (3 ≤ t.2.1 ∧ t.2.1 ≤ 258 ∧ 1 ≤ t.2.2 ∧ t.2.2 ≤ 512)
theorem lenB_sym {n : Nat} (h1 : 3 ≤ n) (h2 : n ≤ 258) : lenB (lenSym n) ≤ 5 := lenB_le (by have := lenSym_le ⟨n, by omega⟩ h1; dsimp only at this; omega)
theorem disB_sym {n : Nat} (h1 : 1 ≤ n) (h2 : n ≤ 512) : disB (disSym n) ≤ 13 := disB_le (by have := disSym_le ⟨n, by omega⟩ h1; dsimp only at this; omega)
theorem layTok_two {L D : List Int} (hL : lens L) (hD : lens D) (p : Nat × Nat) {t : Tok} (ht : okT t) : (layTok L D p t).2 ≤ p.2 + 48 := by
  unfold layTok
  rcases ht with ⟨h, _⟩ | ⟨h1, h2, h3, h4⟩
  · rw [if_pos h]; have := layS_two hL p t.1; omega
  · rw [if_neg (by omega)]
    obtain ⟨n, hn⟩ : ∃ n, t.2.1.toNat = n := ⟨_, rfl⟩
    obtain ⟨d, hd⟩ : ∃ d, t.2.2.toNat = d := ⟨_, rfl⟩
    rw [hn, hd]
    have b1 := lenB_sym (n := n) (by omega) (by omega)
    have b2 := disB_sym (n := d) (by omega) (by omega)
    rw [laP_two _ _ (by omega)]
    have e1 := layS_two hD (laP (layS L p (lenSym n : Nat)) (n - lenA (lenSym n) : Nat) (lenB (lenSym n) : Nat)) (disSym d : Nat)
    rw [laP_two _ _ (by omega)] at e1
    have e2 := layS_two hL p (lenSym n : Nat)
    omega
end Go.Vit
