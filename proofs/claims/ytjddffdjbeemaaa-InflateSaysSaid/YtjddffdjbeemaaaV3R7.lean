/- The document's lengths of a dynamic block: the whole. -/
import Derived.Test.YtjddffdjbeemaaaV3R6
set_option linter.unusedVariables false
set_option linter.unusedSimpArgs false
set_option linter.unusedSimpArgs false
set_option maxRecDepth 20000
namespace Go.Vit
open Go.Proofs
section
variable {σ σ' : Mem} {o : List Nat} {x r p : Nat} {s : ByteArray} {most e : Int} {out : List UInt8} {v : AV} {β : Type} {D : Except Int (β × Nat)} {m : Rd β}
theorem rDynT_eq (a b c : Nat) (k : List Int × List Int → Rd β) : rBind (rDynT a b c) k = rBind (rSmall (ordr.take (c + 4)) (List.replicate 19 0)) fun sm => rBind (rTable sm) fun _ => rBind (rLens sm (a + 257 + b + 1) (a + 257 + b + 2) []) fun l => k (l.take (a + 257), l.drop (a + 257)) := by
  unfold rDynT
  rw [rBind_assoc]
  congr 1
  funext sm
  rw [rBind_assoc]
  congr 1
  funext _
  rw [rBind_assoc]
  rfl
theorem rDyn_eq (k : List Int × List Int → Rd β) : rBind rDyn k = rBind (rBits 5) fun a => rBind (rBits 5) fun b => rBind (rBits 4) fun c => rBind (rDynT a b c) k := by
  unfold rDyn
  rw [rBind_assoc]
  show rBind (rBind (rBits 5) fun a => rBind (rBits 5) fun b => rBind (rBits 4) fun c => rPure ([] ++ [((a : Nat) : Int)] ++ [((b : Nat) : Int)] ++ [((c : Nat) : Int)])) _ = _
  rw [rBind_assoc]
  congr 1
  funext a
  rw [rBind_assoc]
  congr 1
  funext b
  rw [rBind_assoc]
  congr 1
theorem ref03_lens {k : List Int × List Int → Rd β} {q : Nat} (h : Rmv σ o x r s q most out v 0) (hD : rBind rDyn k s q = D) :
    ACalls PG n_ref03_inflater_lens [.ptr x 0] σ fun w σ' => Grow o o σ σ' ∧ ∃ a b, w = .tup [a, b] ∧
    ((∃ l d q, k (l, d) s q = D ∧ Rmv σ' o x r s q most out v 0 ∧ RdO 1 σ' a (ic l) l.length ∧ RdO 1 σ' b (ic d) d.length ∧ (∀ z ∈ blkOf a ++ blkOf b, σ.next ≤ z ∧ z < σ'.next) ∧ l.length ≤ 2 ^ 20 ∧ d.length ≤ 2 ^ 20) ∨ ∃ z q, z ≠ 0 ∧ D = .error z ∧ Rmv σ' o x r s q most out v z) := by
  refine ok_ref03_inflater_lens fun live => ?_
  unfold F_ref03_inflater_lens
  rw [rDyn_eq] at hD
  have ho := h.lt
  refine callW_of (rbits (n := 5) (by omega) (.inl ⟨q, hD, h.bump 6⟩)) ?_
  rintro _ σ1 ⟨a, rfl, ha, g1, h1⟩
  replace g1 := g1.ob
  repeat (first | refine To.go ?_ | with_reducible refine And.intro (by first | omega | exact ⟨rfl, rfl⟩) ?_ | ((with_reducible apply opt); (· (first | with_reducible assumption | rfl))) | ((with_reducible apply ldrw); (· (first | with_reducible assumption | (simp (disch := omega) only [go_sem, *]; try rfl))); (· (first | with_reducible assumption | rfl))) | ((with_reducible apply ldro); (· (first | with_reducible assumption | (simp (disch := omega) only [go_sem, *]; try rfl))); (· (first | with_reducible assumption | rfl))) | ((with_reducible apply st1); (· (first | with_reducible assumption | (simp (disch := omega) only [go_sem, *]; try rfl))); (· simp); (· rfl)) | with_reducible refine ifT rfl ?_ | with_reducible refine ifF (not_not_intro rfl) ?_ | with_reducible refine ifT (by omega) ?_ | with_reducible refine ifF (by omega) ?_)
  refine callW_of (rbits (n := 5) (by omega) (h1.bump 4)) ?_
  rintro _ σ2 ⟨b, rfl, hb, g2, h2⟩
  replace g2 := g1.trans g2.ob
  repeat (first | refine To.go ?_ | with_reducible refine And.intro (by first | omega | exact ⟨rfl, rfl⟩) ?_ | ((with_reducible apply opt); (· (first | with_reducible assumption | rfl))) | ((with_reducible apply ldrw); (· (first | with_reducible assumption | (simp (disch := omega) only [go_sem, *]; try rfl))); (· (first | with_reducible assumption | rfl))) | ((with_reducible apply ldro); (· (first | with_reducible assumption | (simp (disch := omega) only [go_sem, *]; try rfl))); (· (first | with_reducible assumption | rfl))) | ((with_reducible apply st1); (· (first | with_reducible assumption | (simp (disch := omega) only [go_sem, *]; try rfl))); (· simp); (· rfl)) | with_reducible refine ifT rfl ?_ | with_reducible refine ifF (not_not_intro rfl) ?_ | with_reducible refine ifT (by omega) ?_ | with_reducible refine ifF (by omega) ?_)
  refine callW_of (rbits (n := 4) (by omega) (h2.bump 4)) ?_
  rintro _ σ3 ⟨c, rfl, hc, g3, h3⟩
  replace g3 := g2.trans g3.ob
  rw [rDynT_eq] at h3
  repeat (first | refine To.go ?_ | with_reducible refine And.intro (by first | omega | exact ⟨rfl, rfl⟩) ?_ | ((with_reducible apply opt); (· (first | with_reducible assumption | rfl))) | ((with_reducible apply ldrw); (· (first | with_reducible assumption | (simp (disch := omega) only [go_sem, *]; try rfl))); (· (first | with_reducible assumption | rfl))) | ((with_reducible apply ldro); (· (first | with_reducible assumption | (simp (disch := omega) only [go_sem, *]; try rfl))); (· (first | with_reducible assumption | rfl))) | ((with_reducible apply st1); (· (first | with_reducible assumption | (simp (disch := omega) only [go_sem, *]; try rfl))); (· simp); (· rfl)) | with_reducible refine ifT rfl ?_ | with_reducible refine ifF (not_not_intro rfl) ?_ | with_reducible refine ifT (by omega) ?_ | with_reducible refine ifF (by omega) ?_)
  obtain ⟨lb, hlb⟩ : ∃ b, σ3.next = b := ⟨_, rfl⟩
  rw [hlb, show (Int.toNat 19) = 19 from rfl, repl_zero 19]
  obtain ⟨σ4, h4'⟩ : ∃ σ4, σ4 = (σ3.bump 2).put lb (some (.rw (ic (arr (fun _ => 0) 19)))) := ⟨_, rfl⟩
  rw [← h4']
  have n4 : σ4.next = σ3.next + 2 := by rw [h4']; simp only [Mem.next_put, Mem.next_bump]
  have s4 : σ3.Same σ4 := by rw [h4']; repeat (with_reducible first | assumption | exact Mem.Only.refl _ _ | exact Mem.Same.refl _ | refine Mem.Only.bump ?_ _ | refine Mem.Only.put ?_ (by simp) _ | refine Mem.Only.put ?_ (.inr (by first | omega | (simp only [Mem.next_bump, Mem.next_put]; omega))) _ | refine Mem.Same.bump ?_ _ | refine Mem.Same.put ?_ (by first | omega | (simp only [Mem.next_bump, Mem.next_put]; omega)) _)
  have e4 : σ4.get lb = some (.rw (ic (List.replicate 19 0))) := by rw [h4', gS']; rfl
  clear h4'
  have h4 := h3.keep (σ' := σ4) (fun b hb => s4.get b (h3.lt b hb)) s4.next
  have g4 := g3.then s4
  clear h3 h2 h1 hD
  obtain ⟨kk, hkk⟩ : ∃ k, a + 257 = k := ⟨_, rfl⟩
  obtain ⟨all, hall⟩ : ∃ all, kk + b + 1 = all := ⟨_, rfl⟩
  obtain ⟨told, htold⟩ : ∃ t, c + 4 = t := ⟨_, rfl⟩
  rw [hkk, hall, htold, show kk + b + 2 = all + 1 from by omega] at h4
  rw [show (a : Int) + 257 = (kk : Nat) from by omega, show (b : Int) + 1 = ((b + 1 : Nat) : Int) from by omega, show (c : Int) + 4 = (told : Nat) from by omega]
  have hlo : lb ∉ o := fun hm => by have := ho lb hm; have := g3.only.next; omega
  obtain ⟨K1, hK1⟩ : ∃ K1 : List Int → Rd β, (fun sm => rBind (rTable sm) fun _ => rBind (rLens sm all (all + 1) []) fun l => k (l.take kk, l.drop kk)) = K1 := ⟨_, rfl⟩
  rw [hK1] at h4
  refine loop1 (fun (i : Nat) (y : Int) σ' => y = i ∧ i ≤ told ∧ ∃ acc, acc.length = 19 ∧ Rst σ' o x r s most out v (rBind (rSmall ((ordr.take told).drop i) acc) K1) D ∧ Mem.Only o σ σ' ∧ σ4.next ≤ σ'.next ∧ σ'.get lb = some (.rw (ic acc))) (fun i => told - i) 0 ⟨rfl, by omega, List.replicate 19 0, by simp, h4.bump 1, g4.only.bump 1, by simp only [Mem.next_bump]; omega, e4⟩ ?_
  clear e4 h4 g4 s4
  rintro i _ σ5 ⟨rfl, hi, acc, hacc, h5, o5, n5, e5⟩
  unfold F_ref03_inflater_lens_l1
  rw [hlb, show (Int.toNat 19) = 19 from rfl]
  have gr5 : Grow o o σ σ5 := ⟨o5, fun b hb => .inl hb, h5.lt⟩
  refine ifD (fun hlt => ?_) (fun hge => ?_)
  · have hil : i < told := by omega
    obtain ⟨j, hj, hj19⟩ := ordr_lt (i := i) (by omega)
    have hdr : (ordr.take told).drop i = (j : Int) :: (ordr.take told).drop (i + 1) := by
      have hl : i < (ordr.take told).length := by rw [List.length_take]; show i < min told 19; omega
      rw [List.drop_eq_getElem_cons hl]
      congr 1
      rw [List.getElem_take]
      rw [List.getElem?_eq_getElem (by show i < 19; omega)] at hj
      injection hj
    rw [hdr] at h5
    unfold rSmall at h5
    rw [rBind_assoc] at h5
    refine callW_of (ref03_Order (σ5.bump 12)) ?_
    rintro _ σ6 ⟨rfl, b6, n6, s6⟩
    simp only [Mem.next_bump] at b6 n6 ⊢
    replace s6 := s6.ob
    obtain ⟨ob, hob⟩ : ∃ ob, σ5.next + 12 + 1 = ob := ⟨_, rfl⟩
    rw [hob] at b6 ⊢
    have h6 := h5.keep (σ' := σ6) (fun b hb => s6.get b (h5.lt b hb)) s6.next
    refine To.go ?_
    refine And.intro (by omega) ?_
    refine To.go ?_
    refine ldrw b6 (v := .int .i64 (j : Nat)) ?_ ?_
    · have hl : i < ordr.length := by show i < 19; omega
      rw [ic_get hl]
      rw [List.getElem?_eq_getElem hl] at hj
      injection hj with hj
      rw [hj]
    refine To.go ?_
    refine callW_of (rbits (n := 3) (by omega) h6) ?_
    rintro _ σ7 ⟨w, rfl, hw, g7, h7⟩
    have n7 := g7.only.next
    refine To.go ?_
    refine And.intro (g7.only.get ob (by omega) fun hm => by have := ho ob hm; have := o5.next; omega) ?_
    have e7 : σ7.get lb = some (.rw (ic acc)) := by rw [g7.only.get lb (by omega) hlo, s6.get lb (by omega)]; exact e5
    refine To.go ?_
    refine To.go ?_
    refine And.intro (by omega) ?_
    refine st1 (l := ic acc) e7 (by rw [ic_len]; omega) rfl ?_
    rw [ic_set]
    refine iW_of (by omega) ?_
    have g8 := (gr5.then s6).trans g7
    refine again ⟨i + 1, ⟨by omega, by omega, acc.set j (w : Int), by rw [List.length_set]; exact hacc, h7.keep (fun b hb => ?_) ?_, ⟨?_, fun b hb hn => ?_⟩, ?_, by rw [Mem.get_bump, gS']⟩, by omega⟩
    · rw [Mem.get_bump, Mem.get_put_ne _ (by rintro rfl; exact hlo hb)]
    · simp only [Mem.next_bump, Mem.next_put]; omega
    · have := o5.next; simp only [Mem.next_bump, Mem.next_put]; omega
    · have := g3.only.next
      rw [Mem.get_bump, Mem.get_put_ne _ (by omega)]; exact g8.only.get b hb hn
    · simp only [Mem.next_bump, Mem.next_put]; omega
  · obtain rfl : i = told := by omega
    rw [List.drop_of_length_le (by rw [List.length_take]; exact Nat.min_le_left _ _)] at h5
    unfold rSmall at h5
    rw [rBind_pure, ← hK1] at h5
    clear hK1 K1
    refine callW_of (rtable (σ := σ5.bump 7) (L := acc) (h5.bump 7) (fun _ => .mk (b := lb) (by rw [hacc]) ⟨_, e5, rfl⟩ (by rw [ic_len, hacc])) (by omega)) ?_
    rintro ta σ6 ⟨g6, n6, k6, h6⟩
    simp only [Mem.next_bump] at n6 h6
    have g6' := gr5.trans g6.ob
    refine joinI ?_
    have hQ : ∀ σ' z q, Grow o o σ σ' → z ≠ 0 → D = .error z → Rmv σ' o x r s q most out v z → Grow o o σ σ' ∧ ∃ a b, AV.tup [.nils, .nils] = .tup [a, b] ∧
        ((∃ l d q, k (l, d) s q = D ∧ Rmv σ' o x r s q most out v 0 ∧ RdO 1 σ' a (ic l) l.length ∧ RdO 1 σ' b (ic d) d.length ∧ (∀ z ∈ blkOf a ++ blkOf b, σ.next ≤ z ∧ z < σ'.next) ∧ l.length ≤ 2 ^ 20 ∧ d.length ≤ 2 ^ 20) ∨ ∃ z q, z ≠ 0 ∧ D = .error z ∧ Rmv σ' o x r s q most out v z) := fun σ' z q g hz hD h => ⟨g, _, _, rfl, .inr ⟨z, q, hz, hD, h⟩⟩
    have hdead : ∀ (u : AV) (σ' : Mem) (z : Int) (q : Nat), Grow o o σ σ' → z ≠ 0 → D = .error z → Rmv σ' o x r s q most out v z → F_ref03_inflater_lens_j1 (.ptr x 0) (fun w σ' => Grow o o σ σ' ∧ ∃ a b, w = .tup [a, b] ∧
        ((∃ l d q, k (l, d) s q = D ∧ Rmv σ' o x r s q most out v 0 ∧ RdO 1 σ' a (ic l) l.length ∧ RdO 1 σ' b (ic d) d.length ∧ (∀ z ∈ blkOf a ++ blkOf b, σ.next ≤ z ∧ z < σ'.next) ∧ l.length ≤ 2 ^ 20 ∧ d.length ≤ 2 ^ 20) ∨ ∃ z q, z ≠ 0 ∧ D = .error z ∧ Rmv σ' o x r s q most out v z)) (kk : Nat) u σ' := by
      intro u σ' z q g hz hD h
      unfold F_ref03_inflater_lens_j1
      repeat (first | refine To.go ?_ | with_reducible refine And.intro (by first | omega | exact ⟨rfl, rfl⟩) ?_ | ((with_reducible apply opt); (· (first | with_reducible assumption | rfl))) | ((with_reducible apply ldrw); (· (first | with_reducible assumption | (simp (disch := omega) only [go_sem, *]; try rfl))); (· (first | with_reducible assumption | rfl))) | ((with_reducible apply ldro); (· (first | with_reducible assumption | (simp (disch := omega) only [go_sem, *]; try rfl))); (· (first | with_reducible assumption | rfl))) | ((with_reducible apply st1); (· (first | with_reducible assumption | (simp (disch := omega) only [go_sem, *]; try rfl))); (· simp); (· rfl)) | with_reducible refine ifT rfl ?_ | with_reducible refine ifF (not_not_intro rfl) ?_ | with_reducible refine ifT (by omega) ?_ | with_reducible refine ifF (by omega) ?_)
      refine ldrw h.gx (v := .int .i64 z) rfl ?_
      repeat (first | refine To.go ?_ | with_reducible refine And.intro (by first | omega | exact ⟨rfl, rfl⟩) ?_ | ((with_reducible apply opt); (· (first | with_reducible assumption | rfl))) | ((with_reducible apply ldrw); (· (first | with_reducible assumption | (simp (disch := omega) only [go_sem, *]; try rfl))); (· (first | with_reducible assumption | rfl))) | ((with_reducible apply ldro); (· (first | with_reducible assumption | (simp (disch := omega) only [go_sem, *]; try rfl))); (· (first | with_reducible assumption | rfl))) | ((with_reducible apply st1); (· (first | with_reducible assumption | (simp (disch := omega) only [go_sem, *]; try rfl))); (· simp); (· rfl)) | with_reducible refine ifT rfl ?_ | with_reducible refine ifF (not_not_intro rfl) ?_ | with_reducible refine ifT (by omega) ?_ | with_reducible refine ifF (by omega) ?_)
      exact hQ _ z q (g.bump _) hz hD (h.bump _)
    rcases h6 with ⟨t, rfl, hc, hL, hT, q6, hD6, h6⟩ | ⟨z, q6, hz, hD6, h6⟩
    · have hlt6 : ∀ b ∈ o, b < σ5.next + 7 := fun b hb => by have := h5.lt b hb; omega
      refine loop1 (fun (f : Nat) (u : AV) σ' => LensI σ6 o x r s most out v acc all (fun l => k (l.take kk, l.drop kk)) D f u σ') (fun f => f) (all + 1) ⟨[], Own.nil 1 _ _, by simp, ⟨by simp only [Mem.next_bump]; omega, fun _ _ _ => rfl⟩, .inl ⟨q6, hD6, by simp, h6.bump _⟩⟩ ?_
      intro f u σ7 hI
      refine lens_l2 (k3 := kk) (k7 := b + 1) (lo := σ5.next + 7) (hi := σ6.next) (by omega) (by omega) h6.lt hacc (fun σ' o' _ => ⟨t, rfl, hc, hT.keep fun b h1 h2 => o'.get b h2 fun hm => by have := hlt6 b hm; omega⟩) (Nat.le_refl _) (fun b hb => .inl (hlt6 b hb)) hI ?_ ?_ ?_
      · intro σ' z q o' hz hD h
        exact hQ σ' z q (g6'.trans ⟨o', fun b hb => .inl hb, h.lt⟩) hz hD h
      · intro u' σ' f' hf hI'
        exact again ⟨f', hI', hf⟩
      · intro l σ' own hl o' hs
        rcases hs with ⟨q, hD, hla, h⟩ | ⟨z, q, hz, hD, h⟩
        · have g7 := g6'.trans ⟨o', fun b hb => .inl hb, h.lt⟩
          unfold F_ref03_inflater_lens_j1
          repeat (first | refine To.go ?_ | with_reducible refine And.intro (by first | omega | exact ⟨rfl, rfl⟩) ?_ | ((with_reducible apply opt); (· (first | with_reducible assumption | rfl))) | ((with_reducible apply ldrw); (· (first | with_reducible assumption | (simp (disch := omega) only [go_sem, *]; try rfl))); (· (first | with_reducible assumption | rfl))) | ((with_reducible apply ldro); (· (first | with_reducible assumption | (simp (disch := omega) only [go_sem, *]; try rfl))); (· (first | with_reducible assumption | rfl))) | ((with_reducible apply st1); (· (first | with_reducible assumption | (simp (disch := omega) only [go_sem, *]; try rfl))); (· simp); (· rfl)) | with_reducible refine ifT rfl ?_ | with_reducible refine ifF (not_not_intro rfl) ?_ | with_reducible refine ifT (by omega) ?_ | with_reducible refine ifF (by omega) ?_)
          refine ldrw h.gx (v := .int .i64 0) rfl ?_
          repeat (first | refine To.go ?_ | with_reducible refine And.intro (by first | omega | exact ⟨rfl, rfl⟩) ?_ | ((with_reducible apply opt); (· (first | with_reducible assumption | rfl))) | ((with_reducible apply ldrw); (· (first | with_reducible assumption | (simp (disch := omega) only [go_sem, *]; try rfl))); (· (first | with_reducible assumption | rfl))) | ((with_reducible apply ldro); (· (first | with_reducible assumption | (simp (disch := omega) only [go_sem, *]; try rfl))); (· (first | with_reducible assumption | rfl))) | ((with_reducible apply st1); (· (first | with_reducible assumption | (simp (disch := omega) only [go_sem, *]; try rfl))); (· simp); (· rfl)) | with_reducible refine ifT rfl ?_ | with_reducible refine ifF (not_not_intro rfl) ?_ | with_reducible refine ifT (by omega) ?_ | with_reducible refine ifF (by omega) ?_)
          rcases own.1 with ⟨_, h0, _⟩ | ⟨lb2, rfl, h1, h2'⟩
          · omega
          have own4l := own.1.rdO
          refine And.intro ⟨rfl, Int.le_refl _, show (0 : Int) ≤ (kk : Nat) by omega, show ((kk : Nat) : Int) ≤ ((l.length : Nat) : Int) by omega⟩ ?_
          refine And.intro ⟨rfl, show (0 : Int) ≤ (kk : Nat) by omega, show ((kk : Nat) : Int) ≤ ((l.length : Nat) : Int) by omega, Int.le_refl _⟩ ?_
          refine ⟨g7.bump _, _, _, rfl, .inl ⟨l.take kk, l.drop kk, q, hD, h.bump _, ?_, ?_, ?_, ?_, ?_⟩⟩
          · dsimp only [orD]
            rw [List.length_take, Nat.min_eq_left (by omega), Int.toNat_natCast]
            show RdO 1 (σ'.bump 13) (.slice lb2 0 kk _) _ _
            exact RdO.take (own4l.keep fun _ _ => rfl) (by omega)
          · dsimp only [orD]
            rw [List.length_drop, Int.toNat_natCast, Int.toNat_natCast, Nat.mul_one, Nat.zero_add]
            exact RdO.drop (own4l.keep fun _ _ => rfl) (by omega)
          · intro z hz
            have hz : z = lb2 := by simpa [blkOf] using hz
            subst hz
            have := own.2 z (by simp [blkOf])
            have := o5.next
            simp only [Mem.next_bump]
            omega
          · rw [List.length_take]; omega
          · rw [List.length_drop]; omega
        · exact hdead u σ' z q (g6'.trans ⟨o', fun b hb => .inl hb, h.lt⟩) hz hD h
    · refine loop1 (fun (_ : Unit) (u : AV) σ' => Grow o o σ σ' ∧ Rmv σ' o x r s q6 most out v z) (fun _ => 0) () ⟨g6'.bump _, h6.bump _⟩ ?_
      rintro _ u σ7 ⟨g7, h7⟩
      unfold F_ref03_inflater_lens_l2
      repeat (first | refine To.go ?_ | with_reducible refine And.intro (by first | omega | exact ⟨rfl, rfl⟩) ?_ | ((with_reducible apply opt); (· (first | with_reducible assumption | rfl))) | ((with_reducible apply ldrw); (· (first | with_reducible assumption | (simp (disch := omega) only [go_sem, *]; try rfl))); (· (first | with_reducible assumption | rfl))) | ((with_reducible apply ldro); (· (first | with_reducible assumption | (simp (disch := omega) only [go_sem, *]; try rfl))); (· (first | with_reducible assumption | rfl))) | ((with_reducible apply st1); (· (first | with_reducible assumption | (simp (disch := omega) only [go_sem, *]; try rfl))); (· simp); (· rfl)) | with_reducible refine ifT rfl ?_ | with_reducible refine ifF (not_not_intro rfl) ?_ | with_reducible refine ifT (by omega) ?_ | with_reducible refine ifF (by omega) ?_)
      refine ldrw h7.gx (v := .int .i64 z) rfl ?_
      refine To.go ?_
      refine ifF hz ?_
      exact hdead u _ z q6 (g7.bump _) hz hD6 (h7.bump _)
end
end Go.Vit
