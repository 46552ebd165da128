/- Rows 4 -/
import Derived.Test.YthkehkmnfaaagaaV2Y3
set_option linter.unusedVariables false
set_option linter.unusedSimpArgs false
set_option linter.unusedSimpArgs false
set_option maxRecDepth 20000
namespace Go.Vit
open Go.Proofs
section

theorem ref02_sums {a row : AV} {lb m n : Nat} {L : List Int} {σ : Mem} {XR : List Th} {R : List Pm} {v18 : Int} {σ4 : Mem} {Q : AV → Mem → Prop} {Z : List Int}
    (ha : RdO 1 σ a (ic L) L.length) (hla : ∀ b ∈ blkOf a, b < σ.next ∧ b ≠ lb) (hm : L.length = m) (hm2 : m ≤ 2 ^ 20) (hlb : lb < σ.next) (hlbe : σ4.next + 10 = lb) (h18 : v18 = (m : Nat))
    (hR : RowT lb m σ row XR R) (hn : n ≤ 1000) (hRl : 2 * n - 2 ≤ R.length) (hZ : Z.length = m) (hZ0 : ∀ j, Z.getD j 0 = 0) (hg : σ.get lb = some (.rw (ic Z)))
    (hw : ∀ t ∈ R, t.sz ≤ 2 ^ 20)
    (hQ : ∀ σ', Mem.Only [lb] σ σ' → σ'.get lb = some (.rw (ic (addc Z (R.take (2 * n - 2))))) → Q (.tup [.slice lb 0 m (.ex m), .int .i64 0]) σ') :
    loopF [tI] (F_ref02_Limit_l7 a Q (n : Nat) σ4 v18 row) 0 σ := by
  have hXR := hR.len
  have hsz : ∀ l, (∀ t ∈ l, t ∈ R) → l.length ≤ 2000 → ∀ i, sumC i l ≤ 2000 * 2 ^ 20 := by
    intro l hl hll i
    refine Nat.le_trans (sumC_le i l) (Nat.le_trans (sumZ_le fun t ht => hw t (hl t ht)) (Nat.mul_le_mul_right _ hll))
  refine loop1 (fun (j : Nat) (y : Int) σ' => y = j ∧ j ≤ 2 * n - 2 ∧ Mem.Only [lb] σ σ' ∧ σ'.get lb = some (.rw (ic (addc Z (R.take j))))) (fun j => 2 * n - 2 - j) 0 ⟨rfl, by omega, Mem.Only.refl _ _, by rw [List.take_zero, addc_nil]; exact hg⟩ ?_
  rintro j _ σ1 ⟨rfl, hj, o1, g1⟩
  unfold F_ref02_Limit_l7
  have n1 := o1.next
  have f1 : ∀ b, b < σ.next → b ≠ lb → σ1.get b = σ.get b := fun b h h' => o1.get b h (by simpa using h')
  have hR1 := hR.frame n1 f1
  have ha1 := ha.keep (σ' := σ1) fun b hb => f1 b (hla b hb).1 (hla b hb).2
  refine iW_of (by omega) ?_
  refine iW_of (by omega) ?_
  refine ifD (fun hlt => ?_) (fun hge => ?_)
  · have hjR : j < XR.length := by omega
    obtain ⟨rn, b, rv, rl, rb, rg⟩ := hR1.rep XR[j] (List.getElem_mem hjR)
    have e1 : R[j]? = some XR[j].t := by rw [← hR.ts, List.getElem?_map, List.getElem?_eq_getElem hjR]; rfl
    have hRj : R.take (j + 1) = R.take j ++ [XR[j].t] := by
      rw [List.take_succ_eq_append_getElem (by omega)]
      rw [List.getElem?_eq_getElem (by omega)] at e1
      injection e1 with e1
      rw [e1]
    obtain ⟨A, hA⟩ : ∃ A, addc Z (R.take j) = A := ⟨_, rfl⟩
    have hAl : A.length = m := by rw [← hA, addc_len]; exact hZ
    have hA2 : ∀ i, i < m → 0 ≤ A.getD i 0 ∧ A.getD i 0 ≤ 2000 * 2 ^ 20 := by
      intro i hi
      rw [← hA, addc_getD (by omega), hZ0]
      have := hsz (R.take j) (fun t ht => List.mem_of_mem_take ht) (by rw [List.length_take]; omega) i
      omega
    have hAe : addc Z (R.take (j + 1)) = arr (fun i => A.getD i 0 + ((XR[j].t.cnt i : Nat) : Int)) m := by
      rw [hRj, ← addc_addc, hA]
      unfold addc
      rw [hAl]
      exact arr_ext fun i _ => by rw [sumC_one]
    have hAa : A = arr (fun i => A.getD i 0) m := by
      refine List.ext_getElem (by rw [arr_len, hAl]) fun i h1 h2 => ?_
      simp [arr, List.getElem?_eq_getElem h1]
    have cl := fun i => cnt_le i XR[j].t
    have wj := hw XR[j].t (by rw [← hR.ts]; exact List.mem_map_of_mem (List.getElem_mem hjR))
    obtain ⟨x, hx⟩ : ∃ x, XR[j] = x := ⟨_, rfl⟩
    rw [hx] at rv rg hAe cl wj
    rw [hA] at g1
    refine loop1 (fun (s : Nat) (y : Int) σ' => y = s ∧ s ≤ m ∧ Mem.Only [lb] σ σ' ∧ σ1.next ≤ σ'.next ∧ (∀ b, b < σ1.next → b ≠ lb → σ'.get b = σ1.get b) ∧ σ'.get lb = some (.rw (ic (mixA (fun i => A.getD i 0 + ((x.t.cnt i : Nat) : Int)) (fun i => A.getD i 0) s m)))) (fun s => m - s) 0 ⟨rfl, by omega, o1.bump _, by simp only [Mem.next_bump]; omega, fun _ _ _ => rfl, by rw [mixA_zero, ← hAa]; exact g1⟩ ?_
    rintro s _ σ2 ⟨rfl, hs, o2, n2, f2, g2⟩
    unfold F_ref02_Limit_l8
    rw [hlbe, h18, Int.toNat_natCast]
    have ha2 := ha1.keep (σ' := σ2) fun b hb => f2 b (by have := (hla b hb).1; omega) (hla b hb).2
    refine ha2.len ?_
    rw [hm]
    refine ifD (fun hlt' => ?_) (fun hge' => ?_)
    · have hsm : s < m := by omega
      refine rdB1 (i := s) (σ' := σ2.bump 21) g2 rfl hsm (mixA_get hsm (Nat.le_refl _)) rfl ?_
      have hR2 := hR1.frame n2 f2
      refine hR2.own.fldT (k := 2) (σ' := σ2.bump 21) (fun _ _ => rfl) hjR (by decide) rfl (x := .slice b 0 m (.ex m)) (by rw [hx]; show some x.v = _; rw [rv]) ?_
      refine rdB1 (i := s) (σ' := σ2.bump 21) rg (f2 b rb rl) hsm (tms_get _ hsm) rfl ?_
      have c1 := cl s
      have a1 := hA2 s hsm
      refine iW_of (by omega) ?_
      refine wrI (m := s) (σ := σ2.bump 21) g2 (mixA_len _ _ _ _) rfl hsm ?_
      refine iW_of (by omega) ?_
      refine again ⟨s + 1, ⟨by omega, by omega, ?_, by simp only [Mem.next_put, Mem.next_bump]; omega, fun b' h1 h2 => ?_, ?_⟩, by omega⟩
      · exact Mem.Only.bump (Mem.Only.put (o2.bump _) (.inl (by simp)) _) _
      · exact (gB (gN h2 rfl)).trans (f2 b' h1 h2)
      · refine gB (gS'.trans ?_)
        rw [mixA_set (f := fun i => A.getD i 0 + ((x.t.cnt i : Nat) : Int)) (g := fun i => A.getD i 0)]
    · obtain rfl : s = m := by omega
      rw [mixA_all, ← hAe] at g2
      refine iW_of (by omega) ?_
      exact again ⟨j + 1, ⟨by omega, by omega, o2.bump _, g2⟩, by omega⟩
  · obtain rfl : j = 2 * n - 2 := by omega
    rw [hlbe, h18, Int.toNat_natCast]
    exact hQ _ (o1.bump _) g1
end
end Go.Vit
