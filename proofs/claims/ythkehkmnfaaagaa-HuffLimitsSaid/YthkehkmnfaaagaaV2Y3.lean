/- Rows 3 -/
import Derived.Test.YthkehkmnfaaagaaV2Y2
set_option linter.unusedVariables false
set_option linter.unusedSimpArgs false
set_option linter.unusedSimpArgs false
set_option maxRecDepth 20000
namespace Go.Vit
open Go.Proofs
section

theorem ref02_next {a row coins : AV} {lb m : Nat} {L : List Int} {σ : Mem} {XC XR : List Th} {C R : List Pm} {k : Nat} {next66 : AV → Int → Mem → Prop}
    (ha : RdO 1 σ a (ic L) L.length) (hla : ∀ b ∈ blkOf a, b < σ.next) (hm : L.length = m) (hm2 : m ≤ 2 ^ 20) (hlb : lb < σ.next)
    (hC : RowT lb m σ coins XC C) (hR : RowT lb m σ row XR R) (hCl : C.length ≤ 1000) (hRl : R.length ≤ 1000) (hk : k ≤ 100)
    (hw : ∀ t ∈ R, (0 ≤ t.wt ∧ t.wt ≤ 2 ^ 60) ∧ t.sz ≤ 2 ^ 20)
    (hnext : ∀ u X' σ', RowT lb m σ' u X' (mrg C (pks R)) → σ.Same σ' → next66 u ((k + 1 : Nat) : Int) σ') :
    loopF [.v, tI] (F_ref02_Limit_l5 a coins next66 row (k : Nat)) .nils 0 σ := by
  have hXR := hR.len
  have hXC := hC.len
  have hpl := pks_len R
  refine loop2 (fun (p : Nat) (u : AV) (y : Int) σ' => y = ((2 * p : Nat) : Int) ∧ 2 * p ≤ R.length ∧ σ.Same σ' ∧ (∀ b ∈ blkOf u, σ.next ≤ b) ∧ ∃ X, RowT lb m σ' u X ((pks R).take p)) (fun p => R.length - p) 0 ⟨rfl, by omega, Mem.Same.refl σ, fun b hb => by simp [blkOf] at hb, [], by rw [List.take_zero]; exact RowT.nil _ _ _⟩ ?_
  rintro p u _ σ1 ⟨rfl, hp, s1, hub, X, hu⟩
  unfold F_ref02_Limit_l5
  have n1 := s1.next
  have hXl := hu.len
  rw [List.length_take] at hXl
  refine iW_of (by omega) ?_
  have hR1 := hR.same s1
  refine hR1.own.rdO.len ?_
  refine ifD (fun hlt => ?_) (fun hge => ?_)
  · have h1 : 2 * p < XR.length := by omega
    have h2 : 2 * p + 1 < XR.length := by omega
    have r1 := hR1.rep XR[2 * p] (List.getElem_mem h1)
    have r2 := hR1.rep XR[2 * p + 1] (List.getElem_mem h2)
    have w1 := hw XR[2 * p].t (by rw [← hR.ts]; exact List.mem_map_of_mem (List.getElem_mem h1))
    have w2 := hw XR[2 * p + 1].t (by rw [← hR.ts]; exact List.mem_map_of_mem (List.getElem_mem h2))
    have c1 := fun i => cnt_le i XR[2 * p].t
    have c2 := fun i => cnt_le i XR[2 * p + 1].t
    obtain ⟨r1n, b1, r1v, r1l, r1b, r1g⟩ := r1
    obtain ⟨r2n, b2, r2v, r2l, r2b, r2g⟩ := r2
    have e1 : R[2 * p]? = some XR[2 * p].t := by rw [← hR.ts, List.getElem?_map, List.getElem?_eq_getElem h1]; rfl
    have e2 : R[2 * p + 1]? = some XR[2 * p + 1].t := by rw [← hR.ts, List.getElem?_map, List.getElem?_eq_getElem h2]; rfl
    obtain ⟨x1, hx1⟩ : ∃ x, XR[2 * p] = x := ⟨_, rfl⟩
    obtain ⟨x2, hx2⟩ : ∃ x, XR[2 * p + 1] = x := ⟨_, rfl⟩
    rw [hx1] at r1n r1v r1g w1 c1 e1
    rw [hx2] at r2n r2v r2g w2 c2 e2
    refine hR1.own.fldN (σ' := σ1.bump 23) (fun _ _ => rfl) h1 (by omega) ?_
    refine iW_of (by omega) ?_
    refine hR1.own.fldN (σ' := σ1.bump 23) (fun _ _ => rfl) h2 (by omega) ?_
    rw [hx1, hx2, r1n, r2n]
    refine iW_of (by omega) ?_
    have ha1 := ha.keep (σ' := σ1) fun b hb => s1.get b (hla b hb)
    refine ha1.len ?_
    rw [hm]
    refine And.intro (by omega) ?_
    rw [Int.toNat_natCast, repl_zero]
    refine To.go ?_
    refine To.go ?_
    refine stn gS' (by simp) rfl rfl ?_
    obtain ⟨tb, htb⟩ : ∃ tb, σ1.next + 19 = tb := ⟨_, rfl⟩
    obtain ⟨cb, hcb⟩ : ∃ cb, σ1.next + 21 = cb := ⟨_, rfl⟩
    rw [htb, hcb]
    obtain ⟨σ2, h2'⟩ : ∃ σ2, σ2 = ((((σ1.bump 23).put tb (some (.rw (ic (arr (fun _ => 0) m))))).put cb (some (.rw [.int .i64 0, .bool false, .nils]))).put cb (some (.rw (setAt [.int .i64 0, .bool false, .nils] 0 [.int .i64 (x1.t.wt + x2.t.wt), .bool false, .slice tb 0 m (.ex m)])))).bump 1 := ⟨_, rfl⟩
    rw [← h2']
    have s2 : σ1.Same σ2 := by rw [h2']; repeat (with_reducible first | assumption | exact Mem.Only.refl _ _ | exact Mem.Same.refl _ | refine Mem.Only.bump ?_ _ | refine Mem.Only.put ?_ (by simp) _ | refine Mem.Only.put ?_ (.inr (by first | omega | (simp only [Mem.next_bump, Mem.next_put]; omega))) _ | refine Mem.Same.bump ?_ _ | refine Mem.Same.put ?_ (by first | omega | (simp only [Mem.next_bump, Mem.next_put]; omega)) _)
    have n2 : σ2.next = σ1.next + 24 := by rw [h2']; rfl
    have gt : σ2.get tb = some (.rw (ic (arr (fun _ => 0) m))) := by rw [h2']; exact gB (gN (by omega) (gN (by omega) gS'))
    have gc : σ2.get cb = some (.rw [.int .i64 (x1.t.wt + x2.t.wt), .bool false, .slice tb 0 m (.ex m)]) := by rw [h2']; exact gB gS'
    clear h2'
    refine loop1 (fun (s : Nat) (y : Int) σ' => y = s ∧ s ≤ m ∧ σ1.Same σ' ∧ σ2.next ≤ σ'.next ∧ σ'.get tb = some (.rw (ic (mixA (fun i => (((Pm.pair x1.t x2.t).cnt i : Nat) : Int)) (fun _ => 0) s m))) ∧ σ'.get cb = some (.rw [.int .i64 (x1.t.wt + x2.t.wt), .bool false, .slice tb 0 m (.ex m)])) (fun s => m - s) 0 ⟨rfl, by omega, s2, Nat.le_refl _, by rw [mixA_zero]; exact gt, gc⟩ ?_
    rintro s _ σ3 ⟨rfl, hs, s3, n3, gt3, gc3⟩
    unfold F_ref02_Limit_l6
    have ha3 := ha1.keep (σ' := σ3) fun b hb => s3.get b (by have := hla b hb; omega)
    refine ha3.len ?_
    rw [hm, hcb]
    refine ifD (fun hlt => ?_) (fun hge => ?_)
    · have hsm : s < m := by omega
      refine To.go ?_
      refine ldrw (σ := σ3.bump 27) gc3 (v := .slice tb 0 m (.ex m)) rfl ?_
      have hR3 := hR1.same s3
      refine hR3.own.fldT (k := 2) (σ' := σ3.bump 27) (fun _ _ => rfl) h1 (by decide) rfl (x := .slice b1 0 m (.ex m)) (by rw [hx1]; show some x1.v = _; rw [r1v]) ?_
      refine rdB1 (i := s) (σ' := σ3.bump 27) r1g (s3.get b1 r1b) hsm (tms_get _ hsm) rfl ?_
      refine iW_of (by omega) ?_
      refine hR3.own.fldT (k := 2) (σ' := σ3.bump 27) (fun _ _ => rfl) h2 (by decide) (by omega) (x := .slice b2 0 m (.ex m)) (by rw [hx2]; show some x2.v = _; rw [r2v]) ?_
      refine rdB1 (i := s) (σ' := σ3.bump 27) r2g (s3.get b2 r2b) hsm (tms_get _ hsm) rfl ?_
      have c1 := c1 s
      have c2 := c2 s
      refine iW_of (by omega) ?_
      refine wrI (m := s) (σ := σ3.bump 27) gt3 (mixA_len _ _ _ _) rfl hsm ?_
      refine iW_of (by omega) ?_
      refine again ⟨s + 1, ⟨by omega, by omega, ?_, by simp only [Mem.next_put, Mem.next_bump]; omega, ?_, ?_⟩, by omega⟩
      · exact Mem.Same.bump (Mem.Same.put (s3.bump _) (by omega) _) _
      · refine gB (gS'.trans ?_)
        rw [show ((x1.t.cnt s : Nat) : Int) + ((x2.t.cnt s : Nat) : Int) = (fun i => (((Pm.pair x1.t x2.t).cnt i : Nat) : Int)) s from rfl, mixA_set]
      · exact gB (gN (by omega) gc3)
    · obtain rfl : s = m := by omega
      rw [mixA_all] at gt3
      refine ldnq (gB gc3) rfl (by simp) ?_
      refine cellOkW_agg rfl rfl ?_
      refine To.go ?_
      obtain ⟨z, hz⟩ : ∃ z : Th, z = ⟨x1.t.wt + x2.t.wt, false, .slice tb 0 s (.ex s), rfl, .pair x1.t x2.t⟩ := ⟨_, rfl⟩
      have hu3 := hu.same s3
      refine Own.push (σ := σ) (m := 1) (c := th3 [z]) (cs := th3 X) (n := X.length) ⟨hu3.own, fun b hb => ⟨hub b hb, (hu3.lt b hb).1⟩⟩ (s1.trans s3) (by rw [hz]; rfl) (by omega) (by omega) (by omega) rfl (th3_one _) (th3_one _) (by omega) ?_ (by simp only [Mem.next_put, Mem.next_bump]; omega)
      intro u' σ6 own6 s6 hid6 o6 hb6
      rw [th3_append] at own6
      refine iW_of (by omega) ?_
      have n6 := o6.next
      have g6 : ∀ b, b < σ3.next → b ∉ blkOf u → σ6.get b = σ3.get b := fun b h h' => o6.get b h h'
      have htu : tb ∉ blkOf u := fun h => by have := (hu.lt tb h).1; omega
      refine again ⟨p + 1, ⟨by omega, by omega, s6.bump _, fun b hb => (own6.2 b hb).1, X ++ [z], ⟨?_, ?_, ?_, ?_⟩⟩, by omega⟩
      · rw [List.length_append]; exact own6.1.keep fun _ _ => rfl
      · rw [List.map_append, hu.ts, List.take_succ_eq_append_getElem (by omega)]
        congr 1
        have := pks_at e1 e2
        rw [List.getElem?_eq_getElem (by omega)] at this
        injection this with this
        rw [this, hz]; rfl
      · intro x hx
        rcases List.mem_append.1 hx with hx | hx
        · obtain ⟨q1, b, q2, q3, q4, q5⟩ := hu3.rep x hx
          by_cases hbu : b ∈ blkOf u
          · have q6 := hu3.own
            exfalso
            have hX0 : 0 < X.length := by cases X with | nil => simp at hx | cons => simp
            obtain ⟨b', e, hg, _⟩ := q6.sl hX0
            rw [e] at hbu
            simp only [blkOf, List.mem_singleton] at hbu
            subst hbu
            rw [q5] at hg
            injection hg with hg
            injection hg with hg
            have h3 := congrArg (fun l : List AV => l.all fun v => match v with | .int _ _ => true | _ => false) hg
            have h4 : ((ic (tms s x.t)).all fun v => match v with | .int _ _ => true | _ => false) = true := by
              unfold ic; rw [List.all_map]; simp [List.all_eq_true]
            rw [h4] at h3
            cases X with
            | nil => simp at hX0
            | cons y X => simp [th3, thC] at h3
          · exact ⟨q1, b, q2, q3, by simp only [Mem.next_bump]; omega, (g6 b q4 hbu).trans q5⟩
        · rw [List.mem_singleton] at hx
          subst hx
          rw [hz]
          exact ⟨rfl, tb, rfl, by omega, by simp only [Mem.next_bump]; omega, (g6 tb (by omega) htu).trans gt3⟩
      · intro b hb
        have h7 := own6.2 b hb
        exact ⟨by simp only [Mem.next_bump]; omega, by omega⟩
  · have hX2 : (pks R).take p = pks R := List.take_of_length_le (by omega)
    rw [hX2] at hu
    have hC1 := hC.same s1
    refine callW_of (ref02_row (σ := σ1.bump 9) (hC1.own.keep fun _ _ => rfl) (hu.own.keep fun _ _ => rfl) (by omega) (by omega)) ?_
    rintro _ σ4 ⟨own4, s4⟩
    replace s4 := s4.ob
    refine iW_of (by omega) ?_
    obtain ⟨f1, f2, _⟩ := mrgT_map _ XC X (Nat.le_refl _) (fun x hx => (hC1.rep x hx).1) (fun x hx => (hu.rep x hx).1)
    rw [hC.ts, hu.ts] at f1
    have := hnext _ (mrgT XC X) (σ4.bump 3) ⟨own4.1.keep fun _ _ => rfl, f1, fun x hx => ?_, fun b hb => ?_⟩ ((s1.trans s4).bump _)
    · exact this
    · rcases (f2 x).1 hx with hx | hx
      · exact (hC1.rep x hx).frame (by have := s4.next; simp only [Mem.next_bump]; omega) fun b hb _ => s4.get b hb
      · exact (hu.rep x hx).frame (by have := s4.next; simp only [Mem.next_bump]; omega) fun b hb _ => s4.get b hb
    · have := own4.2 b hb
      simp only [Mem.next_bump] at this ⊢
      exact ⟨by omega, by omega⟩
end
end Go.Vit
