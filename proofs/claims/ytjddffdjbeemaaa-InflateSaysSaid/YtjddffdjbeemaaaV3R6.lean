/- The document's lengths of a dynamic block. -/
import Derived.Test.YtjddffdjbeemaaaV3R5
set_option linter.unusedVariables false
set_option linter.unusedSimpArgs false
set_option linter.unusedSimpArgs false
set_option maxRecDepth 20000
namespace Go.Vit
open Go.Proofs
section
variable {σ σ' : Mem} {o : List Nat} {x r p : Nat} {s : ByteArray} {most e : Int} {out : List UInt8} {v : AV} {β : Type} {D : Except Int (β × Nat)} {m : Rd β}
theorem lens_l2 {σ3 σ4 : Mem} {u : AV} {sm : List Int} {all f k7 k3 lo hi : Nat} {ta : AV} {K2 : List Int → Rd β} {next34 k33 : AV → Mem → Prop} {Q : AV → Mem → Prop} (hall : k3 + k7 = all) (hall2 : all ≤ 400) (ho : ∀ b ∈ o, b < σ3.next) (hsm : sm.length = 19)
    (hT2 : ∀ σ', Mem.Only o σ3 σ' → (∃ q, Rmv σ' o x r s q most out v 0) → ∃ t, ta = .ptr t 0 ∧ chk sm = 0 ∧ TabR lo hi sm σ' t) (hhi : hi ≤ σ3.next) (hto : ∀ b ∈ o, b < lo ∨ hi ≤ b)
    (hI : LensI σ3 o x r s most out v sm all K2 D f u σ4)
    (hq : ∀ σ' z q, Mem.Only o σ3 σ' → z ≠ 0 → D = .error z → Rmv σ' o x r s q most out v z → Q (.tup [.nils, .nils]) σ')
    (hk : ∀ u' σ' f', f' < f → LensI σ3 o x r s most out v sm all K2 D f' u' σ' → next34 u' σ')
    (hend : ∀ l σ', Own 1 σ3 σ' u (ic l) l.length → l.length ≤ all → Mem.Only o σ3 σ' → ((∃ q, K2 l s q = D ∧ l.length = all ∧ Rmv σ' o x r s q most out v 0) ∨ ∃ z q, z ≠ 0 ∧ D = .error z ∧ Rmv σ' o x r s q most out v z) → k33 u σ') :
    F_ref03_inflater_lens_l2 (.ptr x 0) Q (k3 : Nat) (k7 : Nat) ta k33 next34 u σ4 := by
  unfold F_ref03_inflater_lens_l2
  obtain ⟨l, own, hl, o4, hs⟩ := hI
  have n4 := o4.next
  rcases hs with ⟨q, hD, hf, h⟩ | ⟨z, q, hz, hD, h⟩
  · repeat (first | refine To.go ?_ | with_reducible refine And.intro (by first | omega | exact ⟨rfl, rfl⟩) ?_ | ((with_reducible apply opt); (· (first | with_reducible assumption | rfl))) | ((with_reducible apply ldrw); (· (first | with_reducible assumption | (simp (disch := omega) only [go_sem, *]; try rfl))); (· (first | with_reducible assumption | rfl))) | ((with_reducible apply ldro); (· (first | with_reducible assumption | (simp (disch := omega) only [go_sem, *]; try rfl))); (· (first | with_reducible assumption | rfl))) | ((with_reducible apply st1); (· (first | with_reducible assumption | (simp (disch := omega) only [go_sem, *]; try rfl))); (· simp); (· rfl)) | with_reducible refine ifT rfl ?_ | with_reducible refine ifF (not_not_intro rfl) ?_ | with_reducible refine ifT (by omega) ?_ | with_reducible refine ifF (by omega) ?_)
    refine ldrw h.gx (v := .int .i64 0) rfl ?_
    refine To.go ?_
    refine ifT rfl ?_
    refine own.1.rdO.len ?_
    refine iW_of (by omega) ?_
    refine ifD (fun hlt => ?_) (fun hge => ?_)
    · have hlt : l.length < all := by omega
      obtain ⟨f, rfl⟩ : ∃ f', f = f' + 1 := ⟨f - 1, by omega⟩
      unfold rLens at hD
      rw [if_pos hlt, rBind_assoc] at hD
      unfold rRun at hD
      rw [rBind_assoc] at hD
      have hgo : ∀ (σ5 : Mem) (c : Int) (n : Nat), σ4.next ≤ σ5.next → Mem.Only o σ4 σ5 → 1 ≤ n → n ≤ 200 → Rst σ5 o x r s most out v (rBind (if all < l.length + n then rFail 12 else rLens sm all f (l ++ List.replicate n c)) K2) D → F_ref03_inflater_lens_j2 (.ptr x 0) (k3 : Nat) (k7 : Nat) next34 u c (n : Nat) σ5 := by
        intro σ5 c n n5 o5 hn1 hn2 h5
        exact lens_j2 hall hall2 (own.only o5 fun b hb hm => by have := own.2 b hb; have := ho b hm; omega) hl ⟨hn1, hn2⟩ ho (o4.trans o5) (by omega) h5 fun u' σ' hI' => hk u' σ' f (by omega) hI'
      refine callW_of (rnext (lo := lo) (hi := hi) (.inl ⟨q, hD, h.bump 17⟩) (fun hq => hT2 _ (o4.bump _) hq) (by simp only [Mem.next_bump]; omega) hto) ?_
      rintro _ σ5 ⟨c, rfl, g5, hc⟩
      replace g5 := g5.ob
      have n5 := g5.only.next
      repeat (first | refine To.go ?_ | with_reducible refine And.intro (by first | omega | exact ⟨rfl, rfl⟩) ?_ | ((with_reducible apply opt); (· (first | with_reducible assumption | rfl))) | ((with_reducible apply ldrw); (· (first | with_reducible assumption | (simp (disch := omega) only [go_sem, *]; try rfl))); (· (first | with_reducible assumption | rfl))) | ((with_reducible apply ldro); (· (first | with_reducible assumption | (simp (disch := omega) only [go_sem, *]; try rfl))); (· (first | with_reducible assumption | rfl))) | ((with_reducible apply st1); (· (first | with_reducible assumption | (simp (disch := omega) only [go_sem, *]; try rfl))); (· simp); (· rfl)) | with_reducible refine ifT rfl ?_ | with_reducible refine ifF (not_not_intro rfl) ?_ | with_reducible refine ifT (by omega) ?_ | with_reducible refine ifF (by omega) ?_)
      refine joinI ?_
      rcases hc with ⟨hcl, q2, hD2, h5, _⟩ | ⟨rfl, z, q2, hz, hD2, h5⟩
      · rw [hsm] at hcl
        refine ifD (fun h16 => ?_) (fun h16 => ?_)
        · rw [if_pos h16, rBind_pure] at hD2
          exact hgo (σ5.bump 7) (c : Nat) 1 (by simp only [Mem.next_bump]; omega) (g5.only.bump _) (by omega) (by omega) (.inl ⟨q2, hD2, h5.bump 7⟩)
        rw [if_neg h16] at hD2
        refine joinI ?_
        rcases (by omega : c = 16 ∨ c = 17 ∨ c = 18) with rfl | rfl | rfl
        · refine ifT rfl ?_
          repeat (first | refine To.go ?_ | with_reducible refine And.intro (by first | omega | exact ⟨rfl, rfl⟩) ?_ | ((with_reducible apply opt); (· (first | with_reducible assumption | rfl))) | ((with_reducible apply ldrw); (· (first | with_reducible assumption | (simp (disch := omega) only [go_sem, *]; try rfl))); (· (first | with_reducible assumption | rfl))) | ((with_reducible apply ldro); (· (first | with_reducible assumption | (simp (disch := omega) only [go_sem, *]; try rfl))); (· (first | with_reducible assumption | rfl))) | ((with_reducible apply st1); (· (first | with_reducible assumption | (simp (disch := omega) only [go_sem, *]; try rfl))); (· simp); (· rfl)) | with_reducible refine ifT rfl ?_ | with_reducible refine ifF (not_not_intro rfl) ?_ | with_reducible refine ifT (by omega) ?_ | with_reducible refine ifF (by omega) ?_)
          refine ldrw h5.gx (v := .int .i64 0) rfl ?_
          refine To.go ?_
          refine ifT rfl ?_
          have own5 := own.only (σ2 := σ5) g5.only fun b hb hm => by have := own.2 b hb; have := ho b hm; omega
          refine own5.1.rdO.len ?_
          by_cases h0 : l.length = 0
          · rw [if_pos ⟨rfl, h0⟩] at hD2
            refine ifT (by omega) ?_
            repeat (first | refine To.go ?_ | with_reducible refine And.intro (by first | omega | exact ⟨rfl, rfl⟩) ?_ | ((with_reducible apply opt); (· (first | with_reducible assumption | rfl))) | ((with_reducible apply ldrw); (· (first | with_reducible assumption | (simp (disch := omega) only [go_sem, *]; try rfl))); (· (first | with_reducible assumption | rfl))) | ((with_reducible apply ldro); (· (first | with_reducible assumption | (simp (disch := omega) only [go_sem, *]; try rfl))); (· (first | with_reducible assumption | rfl))) | ((with_reducible apply st1); (· (first | with_reducible assumption | (simp (disch := omega) only [go_sem, *]; try rfl))); (· simp); (· rfl)) | with_reducible refine ifT rfl ?_ | with_reducible refine ifF (not_not_intro rfl) ?_ | with_reducible refine ifT (by omega) ?_ | with_reducible refine ifF (by omega) ?_)
            refine st1 h5.gx (by simp) rfl ?_
            have hs := (h5.bump 22).set 12
            exact hq _ 12 q2 ((o4.trans (g5.only.bump 22)).trans hs.2.only |>.bump _) (by decide) hD2.symm (hs.1.bump _)
          · rw [if_neg fun h => h0 h.2, if_pos (show ((16 : Nat) : Int) = 16 by decide), if_pos (show ((16 : Nat) : Int) = 16 by decide), if_neg (show ¬ ((16 : Nat) : Int) = 18 by decide), rBind_assoc] at hD2
            refine ifF (by omega) ?_
            refine own5.1.rdO.len ?_
            refine joinI ?_
            refine ifT (by omega) ?_
            refine own5.1.rdO.len ?_
            have hl1 : l.length - 1 < l.length := by omega
            rw [getD_of hl1] at hD2
            obtain ⟨ba, baz, ca, rfl, hget⟩ := own5.1.rdO.at hl1
            refine iW_of (by omega) ?_
            rw [show ((l.length : Int) - 1) = ((l.length - 1 : Nat) : Int) from by omega]
            refine To.go ?_
            refine And.intro hl1 ?_
            refine To.go ?_
            refine hget _ ?_
            refine To.go ?_
            unfold F_ref03_inflater_lens_j8
            refine callW_of (rbits (n := 2) (by omega) (.inl ⟨q2, hD2, (h5.bump 28).bump 4⟩)) ?_
            rintro _ σ6 ⟨a, rfl, ha, g6, h6⟩
            replace g6 := g6.ob.ob
            repeat (first | refine To.go ?_ | with_reducible refine And.intro (by first | omega | exact ⟨rfl, rfl⟩) ?_ | ((with_reducible apply opt); (· (first | with_reducible assumption | rfl))) | ((with_reducible apply ldrw); (· (first | with_reducible assumption | (simp (disch := omega) only [go_sem, *]; try rfl))); (· (first | with_reducible assumption | rfl))) | ((with_reducible apply ldro); (· (first | with_reducible assumption | (simp (disch := omega) only [go_sem, *]; try rfl))); (· (first | with_reducible assumption | rfl))) | ((with_reducible apply st1); (· (first | with_reducible assumption | (simp (disch := omega) only [go_sem, *]; try rfl))); (· simp); (· rfl)) | with_reducible refine ifT rfl ?_ | with_reducible refine ifF (not_not_intro rfl) ?_ | with_reducible refine ifT (by omega) ?_ | with_reducible refine ifF (by omega) ?_)
            unfold F_ref03_inflater_lens_j7
            rw [show (3 : Int) + (a : Nat) = ((a + 3 : Nat) : Int) from by omega]
            exact hgo σ6 _ (a + 3) (by have := g6.only.next; omega) (g5.only.trans g6.only) (by omega) (by omega) h6
        · rw [if_neg fun h => absurd h.1 (by decide), if_neg (show ¬ ((17 : Nat) : Int) = 16 by decide), if_neg (show ¬ ((17 : Nat) : Int) = 16 by decide), if_pos (show ((17 : Nat) : Int) = 17 by decide), if_neg (show ¬ ((17 : Nat) : Int) = 18 by decide), rBind_assoc] at hD2
          refine ifF (by decide) ?_
          refine joinI ?_
          refine ifT rfl ?_
          refine callW_of (rbits (n := 3) (by omega) (.inl ⟨q2, hD2, h5.bump 15⟩)) ?_
          rintro _ σ6 ⟨a, rfl, ha, g6, h6⟩
          replace g6 := g6.ob
          repeat (first | refine To.go ?_ | with_reducible refine And.intro (by first | omega | exact ⟨rfl, rfl⟩) ?_ | ((with_reducible apply opt); (· (first | with_reducible assumption | rfl))) | ((with_reducible apply ldrw); (· (first | with_reducible assumption | (simp (disch := omega) only [go_sem, *]; try rfl))); (· (first | with_reducible assumption | rfl))) | ((with_reducible apply ldro); (· (first | with_reducible assumption | (simp (disch := omega) only [go_sem, *]; try rfl))); (· (first | with_reducible assumption | rfl))) | ((with_reducible apply st1); (· (first | with_reducible assumption | (simp (disch := omega) only [go_sem, *]; try rfl))); (· simp); (· rfl)) | with_reducible refine ifT rfl ?_ | with_reducible refine ifF (not_not_intro rfl) ?_ | with_reducible refine ifT (by omega) ?_ | with_reducible refine ifF (by omega) ?_)
          unfold F_ref03_inflater_lens_j10 F_ref03_inflater_lens_j7
          rw [show (3 : Int) + (a : Nat) = ((a + 3 : Nat) : Int) from by omega]
          exact hgo σ6 _ (a + 3) (by have := g6.only.next; omega) (g5.only.trans g6.only) (by omega) (by omega) h6
        · rw [if_neg fun h => absurd h.1 (by decide), if_neg (show ¬ ((18 : Nat) : Int) = 16 by decide), if_neg (show ¬ ((18 : Nat) : Int) = 16 by decide), if_neg (show ¬ ((18 : Nat) : Int) = 17 by decide), if_pos (show ((18 : Nat) : Int) = 18 by decide), rBind_assoc] at hD2
          refine ifF (by decide) ?_
          refine joinI ?_
          refine ifF (by decide) ?_
          refine callW_of (rbits (n := 7) (by omega) (.inl ⟨q2, hD2, h5.bump 15⟩)) ?_
          rintro _ σ6 ⟨a, rfl, ha, g6, h6⟩
          replace g6 := g6.ob
          repeat (first | refine To.go ?_ | with_reducible refine And.intro (by first | omega | exact ⟨rfl, rfl⟩) ?_ | ((with_reducible apply opt); (· (first | with_reducible assumption | rfl))) | ((with_reducible apply ldrw); (· (first | with_reducible assumption | (simp (disch := omega) only [go_sem, *]; try rfl))); (· (first | with_reducible assumption | rfl))) | ((with_reducible apply ldro); (· (first | with_reducible assumption | (simp (disch := omega) only [go_sem, *]; try rfl))); (· (first | with_reducible assumption | rfl))) | ((with_reducible apply st1); (· (first | with_reducible assumption | (simp (disch := omega) only [go_sem, *]; try rfl))); (· simp); (· rfl)) | with_reducible refine ifT rfl ?_ | with_reducible refine ifF (not_not_intro rfl) ?_ | with_reducible refine ifT (by omega) ?_ | with_reducible refine ifF (by omega) ?_)
          unfold F_ref03_inflater_lens_j10 F_ref03_inflater_lens_j7
          rw [show (11 : Int) + (a : Nat) = ((a + 11 : Nat) : Int) from by omega]
          exact hgo σ6 _ (a + 11) (by have := g6.only.next; omega) (g5.only.trans g6.only) (by omega) (by omega) h6
      · refine ifT (by decide) ?_
        exact hgo (σ5.bump 7) 0 1 (by simp only [Mem.next_bump]; omega) (g5.only.bump _) (by omega) (by omega) (.inr ⟨z, q2, hz, hD2, h5.bump 7⟩)
    · obtain ⟨f, rfl⟩ : ∃ f', f = f' + 1 := ⟨f - 1, by omega⟩
      unfold rLens at hD
      rw [if_neg (by omega), rBind_pure] at hD
      exact hend l _ (own.same ((Mem.Same.refl σ4).bump _)) hl (o4.bump _) (.inl ⟨q, hD, by omega, h.bump _⟩)
  · repeat (first | refine To.go ?_ | with_reducible refine And.intro (by first | omega | exact ⟨rfl, rfl⟩) ?_ | ((with_reducible apply opt); (· (first | with_reducible assumption | rfl))) | ((with_reducible apply ldrw); (· (first | with_reducible assumption | (simp (disch := omega) only [go_sem, *]; try rfl))); (· (first | with_reducible assumption | rfl))) | ((with_reducible apply ldro); (· (first | with_reducible assumption | (simp (disch := omega) only [go_sem, *]; try rfl))); (· (first | with_reducible assumption | rfl))) | ((with_reducible apply st1); (· (first | with_reducible assumption | (simp (disch := omega) only [go_sem, *]; try rfl))); (· simp); (· rfl)) | with_reducible refine ifT rfl ?_ | with_reducible refine ifF (not_not_intro rfl) ?_ | with_reducible refine ifT (by omega) ?_ | with_reducible refine ifF (by omega) ?_)
    refine ldrw h.gx (v := .int .i64 z) rfl ?_
    refine To.go ?_
    refine ifF hz ?_
    exact hend l _ (own.same ((Mem.Same.refl σ4).bump _)) hl (o4.bump _) (.inr ⟨z, q, hz, hD, h.bump _⟩)
end
end Go.Vit
