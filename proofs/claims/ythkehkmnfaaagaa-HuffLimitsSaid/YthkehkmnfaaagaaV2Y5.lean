/- Rows 5 -/
import Derived.Test.YthkehkmnfaaagaaV2Y4
set_option linter.unusedVariables false
set_option linter.unusedSimpArgs false
set_option linter.unusedSimpArgs false
set_option maxRecDepth 20000
namespace Go.Vit
open Go.Proofs
section

theorem coins_step {L : List Int} {i : Nat} (h : 0 < L.getD i 0) : coinsTo L (i + 1) = coinsTo L i ++ [.coin (L.getD i 0) i] := by rw [coinsTo_succ, if_pos h]
theorem coins_skip {L : List Int} {i : Nat} (h : ¬ 0 < L.getD i 0) : coinsTo L (i + 1) = coinsTo L i := by rw [coinsTo_succ, if_neg h, List.append_nil]
theorem bump_bump (σ : Mem) (a b : Nat) : (σ.bump a).bump b = σ.bump (a + b) := by
  unfold Mem.bump
  rw [Nat.add_assoc]
theorem ref02_Limit {a : AV} {L : List Int} {most : Int} {σ : Mem} (ha : RdO 1 σ a (ic L) L.length) (hl : L.length ≤ 2 ^ 44) :
    ACalls PG n_ref02_Limit [.int .i64 most, a] σ fun w σ' => ∃ c, w = .tup [c, .int .i64 (if badL most L then 1 else 0)] ∧ σ.Same σ' ∧ ((badL most L ∧ c = .nils) ∨ (¬ badL most L ∧ RdS 1 σ' c (ic (limit most.toNat L)) L.length ∧ ∀ b ∈ blkOf c, σ.next ≤ b ∧ b < σ'.next)) := by
  refine ok_ref02_Limit fun live => ?_
  unfold F_ref02_Limit
  have hla := ha.lt live
  have hf : ∀ {σ' : Mem}, σ.Same σ' → ∀ b ∈ blkOf a, σ'.get b = σ.get b := fun s b hb => s.get b (hla b hb)
  have bad : ∀ (σ' : Mem), badL most L → σ.Same σ' → ∃ c, AV.tup [.nils, .int .i64 1] = .tup [c, .int .i64 (if badL most L then 1 else 0)] ∧ σ.Same σ' ∧ ((badL most L ∧ c = .nils) ∨ (¬ badL most L ∧ RdS 1 σ' c (ic (limit most.toNat L)) L.length ∧ ∀ b ∈ blkOf c, σ.next ≤ b ∧ b < σ'.next)) := fun _ h s => ⟨.nils, by rw [if_pos h], s, .inl ⟨h, rfl⟩⟩
  refine ha.len ?_
  refine ifD (fun h => bad _ (.inr (.inr (.inl (by omega)))) ((Mem.Same.refl σ).bump _)) (fun h1 => ?_)
  refine ifD (fun h => bad _ (.inl h) ((Mem.Same.refl σ).bump _)) (fun h2 => ?_)
  refine ifD (fun h => bad _ (.inr (.inl h)) ((Mem.Same.refl σ).bump _)) (fun h3 => ?_)
  obtain ⟨mt, hmt⟩ : ∃ mt : Nat, most = mt := ⟨most.toNat, by omega⟩
  subst hmt
  refine loop2 (fun (i : Nat) (x y : Int) σ' => x = ((coinsTo L i).length : Nat) ∧ y = i ∧ i ≤ L.length ∧ (∀ j < i, 0 ≤ L.getD j 0 ∧ L.getD j 0 ≤ 1000000000) ∧ σ.Same σ') (fun i => L.length - i) 0 ⟨rfl, rfl, by omega, fun j hj => absurd hj (by omega), (Mem.Same.refl σ).bump _⟩ ?_
  rintro i _ _ σ1 ⟨rfl, rfl, hi, hb, s1⟩
  unfold F_ref02_Limit_l1
  have hcl := coinsTo_len L i
  refine (ha.keep (hf s1)).len ?_
  refine ifD (fun hlt => ?_) (fun hge => ?_)
  · have hil : i < L.length := by omega
    have hmem : L.getD i 0 ∈ L := by rw [getD_of hil]; exact List.getElem_mem hil
    refine ha.rd (i := i) (hf (s1.bump _)) hil rfl ?_
    refine ifD (fun h => bad _ (.inr (.inr (.inr (.inl ⟨_, hmem, .inl h⟩)))) (s1.bump _)) (fun h4 => ?_)
    refine ha.rd (i := i) (hf (s1.bump _)) hil rfl ?_
    refine ifD (fun h => bad _ (.inr (.inr (.inr (.inl ⟨_, hmem, .inr h⟩)))) (s1.bump _)) (fun h5 => ?_)
    refine ha.rd (i := i) (hf (s1.bump _)) hil rfl ?_
    have hb' : ∀ j < i + 1, 0 ≤ L.getD j 0 ∧ L.getD j 0 ≤ 1000000000 := by
      intro j hj
      by_cases e : j < i
      · exact hb j e
      · rw [show j = i from by omega]; omega
    refine joinI ?_
    refine ifD (fun h => ?_) (fun h => ?_)
    · refine iW_of (by omega) ?_
      unfold F_ref02_Limit_j1
      refine iW_of (by omega) ?_
      refine again ⟨i + 1, ⟨?_, by omega, by omega, hb', (s1.bump _).bump _⟩, by omega⟩
      rw [coins_step h, List.length_append]; rfl
    · unfold F_ref02_Limit_j1
      refine iW_of (by omega) ?_
      refine again ⟨i + 1, ⟨?_, by omega, by omega, hb', (s1.bump _).bump _⟩, by omega⟩
      rw [coins_skip h]
  obtain rfl : i = L.length := by omega
  rw [show coinsTo L L.length = coinsOf L from rfl] at hcl ⊢
  have hLn : ∀ n ∈ L, 0 ≤ n ∧ n ≤ 1000000000 := by
    intro n hn
    obtain ⟨j, hj, rfl⟩ := List.getElem_of_mem hn
    have := hb j hj
    rw [getD_of hj] at this
    exact this
  have hpw : (1 : Int) * 2 ^ ((mt : Nat) : Int).toNat = ((2 ^ mt : Nat) : Int) := by rw [Int.toNat_natCast]; push_cast; omega
  have hpb : 2 ^ mt ≤ 2 ^ 15 := pow_le (by omega)
  obtain ⟨pw, hpwe⟩ : ∃ pw : Nat, 2 ^ mt = pw := ⟨_, rfl⟩
  rw [hpwe] at hpw hpb
  refine To.go ?_
  refine And.intro (by omega) ?_
  rw [hpw]
  refine iW_of (by omega) ?_
  refine ifD (fun h => bad _ (.inr (.inr (.inr (.inr (by rw [Int.toNat_natCast, hpwe]; omega))))) (s1.bump _)) (fun hpm => ?_)
  have hnb : ¬ badL (mt : Nat) L := by
    rintro (h | h | h | ⟨x, hx, h⟩ | h)
    · omega
    · omega
    · omega
    · have := hLn x hx; omega
    · rw [Int.toNat_natCast, hpwe] at h; omega
  clear bad
  rw [if_neg hnb]
  refine (ha.keep (hf s1)).len ?_
  obtain ⟨m, hm⟩ : ∃ m, L.length = m := ⟨_, rfl⟩
  obtain ⟨n, hn⟩ : ∃ n, (coinsOf L).length = n := ⟨_, rfl⟩
  obtain ⟨lb, hlb⟩ : ∃ lb, σ1.next + 10 = lb := ⟨_, rfl⟩
  rw [hm, hn, hlb]
  rw [hm] at hcl
  rw [hn] at hcl hpm
  refine And.intro (by omega) ?_
  rw [Int.toNat_natCast, repl_zero]
  refine To.go ?_
  have n1 := s1.next
  obtain ⟨Z, hZ⟩ : ∃ Z : List Int, arr (fun _ => 0) m = Z := ⟨_, rfl⟩
  have hZl : Z.length = m := by rw [← hZ, arr_len]
  have hZ0 : ∀ j, Z.getD j 0 = 0 := by
    intro j
    rw [← hZ, arr_getD]
    split <;> rfl
  have haddc : ∀ l, addc Z l = arr (fun i => ((sumC i l : Nat) : Int)) m := by
    intro l
    unfold addc
    rw [hZl]
    refine arr_ext fun j _ => ?_
    rw [hZ0]; omega
  have done : ∀ (σ' : Mem) (l : List Int), limit mt L = l → σ'.get lb = some (.rw (ic l)) → σ.Same σ' → lb < σ'.next → ∃ c, AV.tup [.slice lb 0 m (.ex m), .int .i64 0] = .tup [c, .int .i64 0] ∧ σ.Same σ' ∧ ((badL (mt : Nat) L ∧ c = .nils) ∨ (¬ badL (mt : Nat) L ∧ RdS 1 σ' c (ic (limit ((mt : Nat) : Int).toNat L)) m ∧ ∀ b ∈ blkOf c, σ.next ≤ b ∧ b < σ'.next)) := by
    intro σ' l hl hg hs hn
    refine ⟨_, rfl, hs, .inr ⟨hnb, ?_, fun b hb => ?_⟩⟩
    · rw [Int.toNat_natCast, hl]
      exact .inr ⟨_, _, rfl, ⟨_, hg, rfl⟩, by rw [ic_len, ← hl, limit_len, Nat.mul_one, hm]⟩
    · simp only [blkOf, List.mem_singleton] at hb
      omega
  rw [hZ]
  refine loop2 (fun (i : Nat) (u : AV) (y : Int) σ' => y = i ∧ i ≤ m ∧ σ.Same σ' ∧ lb < σ'.next ∧ σ'.get lb = some (.rw (ic Z)) ∧ (n = 1 → coinsTo L i = []) ∧ ∃ X, RowT lb m σ' u X (isort (coinsTo L i))) (fun i => m - i) 0 ⟨rfl, by omega, by repeat (with_reducible first | assumption | exact Mem.Only.refl _ _ | exact Mem.Same.refl _ | refine Mem.Only.bump ?_ _ | refine Mem.Only.put ?_ (by simp) _ | refine Mem.Only.put ?_ (.inr (by first | omega | (simp only [Mem.next_bump, Mem.next_put]; omega))) _ | refine Mem.Same.bump ?_ _ | refine Mem.Same.put ?_ (by first | omega | (simp only [Mem.next_bump, Mem.next_put]; omega)) _), by simp only [Mem.next_bump, Mem.next_put]; omega, gB gS', fun _ => rfl, [], RowT.nil _ _ _⟩ ?_
  rintro i u _ σ2 ⟨rfl, hi, s2, nlb, glb, hone, X, hu⟩
  unfold F_ref02_Limit_l2
  have n2 := s2.next
  refine (ha.keep (hf s2)).len ?_
  rw [hm]
  refine ifD (fun hlt => ?_) (fun hge => ?_)
  · have hil : i < L.length := by omega
    have him : i < m := by omega
    have hbi := hLn (L.getD i 0) (by rw [getD_of hil]; exact List.getElem_mem hil)
    have hXl := hu.len
    rw [isort_len] at hXl
    have hci := coinsTo_len L i
    refine joinI ?_
    refine ha.rd (i := i) (hf (s2.bump _)) hil rfl ?_
    refine ifD (fun h0 => ?_) (fun h0 => ?_)
    · unfold F_ref02_Limit_j2
      refine iW_of (by omega) ?_
      have e := coins_skip (L := L) (i := i) (by omega)
      exact again ⟨i + 1, ⟨by omega, by omega, (s2.bump _).bump _, by simp only [Mem.next_bump]; omega, gB (gB glb), by rw [e]; exact hone, X, by rw [e]; exact hu.same (((Mem.Same.refl σ2).bump _).bump _)⟩, by omega⟩
    · have hpos : 0 < L.getD i 0 := by omega
      have e := coins_step hpos
      refine ha.rd (i := i) (hf (s2.bump _)) hil rfl ?_
      refine (ha.keep (hf s2)).len ?_
      rw [hm]
      refine And.intro (by omega) ?_
      rw [Int.toNat_natCast, repl_zero]
      refine To.go ?_
      refine To.go ?_
      refine stn gS' (by simp) rfl rfl ?_
      obtain ⟨w, hw⟩ : ∃ w, L.getD i 0 = w := ⟨_, rfl⟩
      rw [hw] at hpos hbi e ⊢
      obtain ⟨tb, htb⟩ : ∃ tb, σ2.next + 15 = tb := ⟨_, rfl⟩
      obtain ⟨cb, hcb⟩ : ∃ cb, σ2.next + 17 = cb := ⟨_, rfl⟩
      rw [htb, hcb]
      refine To.go ?_
      obtain ⟨σ3, h3'⟩ : ∃ σ3, σ3 = (((σ2.bump 19).put tb (some (.rw (ic (arr (fun _ => 0) m))))).put cb (some (.rw [.int .i64 0, .bool false, .nils]))).put cb (some (.rw (setAt [.int .i64 0, .bool false, .nils] 0 [.int .i64 w, .bool true, .slice tb 0 m (.ex m)]))) := ⟨_, rfl⟩
      rw [← h3']
      have s3 : σ2.Same σ3 := by rw [h3']; repeat (with_reducible first | assumption | exact Mem.Only.refl _ _ | exact Mem.Same.refl _ | refine Mem.Only.bump ?_ _ | refine Mem.Only.put ?_ (by simp) _ | refine Mem.Only.put ?_ (.inr (by first | omega | (simp only [Mem.next_bump, Mem.next_put]; omega))) _ | refine Mem.Same.bump ?_ _ | refine Mem.Same.put ?_ (by first | omega | (simp only [Mem.next_bump, Mem.next_put]; omega)) _)
      have n3 : σ3.next = σ2.next + 19 := by rw [h3']; rfl
      have gt : σ3.get tb = some (.rw (ic (arr (fun _ => 0) m))) := by rw [h3']; exact gN (by omega) (gN (by omega) gS')
      have gc : σ3.get cb = some (.rw [.int .i64 w, .bool true, .slice tb 0 m (.ex m)]) := by rw [h3']; exact gS'
      clear h3'
      refine ldrw (σ := σ3.bump 5) gc (v := .slice tb 0 m (.ex m)) rfl ?_
      refine wrI (m := i) (σ := σ3.bump 5) gt (arr_len _ _) rfl him ?_
      rw [tms_coin (n := w) him]
      obtain ⟨σ4, h4'⟩ : ∃ σ4, σ4 = (σ3.bump 5).put tb (some (.rw (ic (tms m (.coin w i))))) := ⟨_, rfl⟩
      rw [← h4']
      have s4 : σ2.Same σ4 := by rw [h4']; exact Mem.Same.put (s3.bump _) (by omega) _
      have n4 : σ4.next = σ3.next + 5 := by rw [h4']; rfl
      have gt4 : σ4.get tb = some (.rw (ic (tms m (.coin w i)))) := by rw [h4']; exact gS'
      have gc4 : σ4.get cb = some (.rw [.int .i64 w, .bool true, .slice tb 0 m (.ex m)]) := by rw [h4']; exact gN (by omega) gc
      have glb4 : σ4.get lb = some (.rw (ic Z)) := (s4.get lb nlb).trans glb
      clear h4'
      have hXw : ∀ j (h : j < X.length), (isort (coinsTo L i))[j]? = some X[j].t ∧ X[j].n = X[j].t.wt := by
        intro j h
        refine ⟨?_, (hu.rep _ (List.getElem_mem h)).1⟩
        rw [← hu.ts, List.getElem?_map, List.getElem?_eq_getElem h]; rfl
      refine join1 (fun (x : Int) σ' => ∃ p : Nat, x = p ∧ p ≤ X.length ∧ insA (.coin w i) (isort (coinsTo L i)) = (isort (coinsTo L i)).take p ++ .coin w i :: (isort (coinsTo L i)).drop p ∧ ∃ j, σ' = σ4.bump j) ?_ ?_
      · refine loop1 (fun (p : Nat) (x : Int) σ' => x = p ∧ p ≤ X.length ∧ (∀ j, j < p → ∀ h : j < X.length, X[j].n ≤ w) ∧ ∃ j, σ' = σ4.bump j) (fun p => X.length - p) 0 ⟨rfl, by omega, fun j hj => absurd hj (by omega), 1, rfl⟩ ?_
        rintro p _ _ ⟨rfl, hp, hle, q, rfl⟩
        unfold F_ref02_Limit_l3
        rw [hcb]
        have stop : (∀ h : p < X.length, ¬ X[p].n ≤ w) → insA (.coin w i) (isort (coinsTo L i)) = (isort (coinsTo L i)).take p ++ .coin w i :: (isort (coinsTo L i)).drop p := by
          intro h
          refine insA_at (by rw [isort_len, ← hXl]; exact hp) (fun j y hj hy => ?_) (fun y hy => ?_)
          · have hjX : j < X.length := by omega
            have h1 := hXw j hjX
            rw [h1.1] at hy
            injection hy with hy
            rw [← hy, ← h1.2]
            exact hle j hj hjX
          · have hpX : p < X.length := by
              have := (List.getElem?_eq_some_iff.1 hy).1
              rw [isort_len] at this; omega
            have h1 := hXw p hpX
            rw [h1.1] at hy
            injection hy with hy
            rw [← hy, ← h1.2]
            exact h hpX
        have hu4 := hu.same (s4.bump q)
        refine hu4.own.rdO.len ?_
        refine ifD (fun hlt' => ?_) (fun hge' => ?_)
        · have hpX : p < X.length := by omega
          refine hu4.own.fldN (σ' := (σ4.bump q).bump 14) (fun _ _ => rfl) hpX rfl ?_
          refine To.go ?_
          refine ldrw (σ := (σ4.bump q).bump 14) (K := fun a => castI .i64 a _) gc4 (v := .int .i64 w) rfl ?_
          refine ifD (fun hc => ?_) (fun hc => ?_)
          · refine iW_of (by omega) ?_
            refine again ⟨p + 1, ⟨by omega, by omega, fun j hj h => ?_, q + 17, bump_bump _ _ _⟩, by omega⟩
            by_cases ej : j < p
            · exact hle j ej h
            · obtain rfl : j = p := by omega
              exact hc
          · exact ⟨p, rfl, hp, stop fun _ => hc, q + 14, bump_bump _ _ _⟩
        · exact ⟨p, rfl, hp, stop fun h => absurd h (by omega), q + 14, bump_bump _ _ _⟩
      · rintro _ _ ⟨p, rfl, hp, hins, q, rfl⟩
        unfold F_ref02_Limit_j3
        rw [hcb, hlb, Int.toNat_natCast]
        obtain ⟨σ5, h5⟩ : ∃ σ5, σ5 = σ4.bump q := ⟨_, rfl⟩
        rw [← h5]
        have s5 : σ2.Same σ5 := by rw [h5]; exact s4.bump _
        have n5 : σ4.next ≤ σ5.next := by rw [h5]; simp only [Mem.next_bump]; omega
        have gt5 : σ5.get tb = some (.rw (ic (tms m (.coin w i)))) := by rw [h5]; exact gt4
        have gc5 : σ5.get cb = some (.rw [.int .i64 w, .bool true, .slice tb 0 m (.ex m)]) := by rw [h5]; exact gc4
        have glb5 : σ5.get lb = some (.rw (ic Z)) := by rw [h5]; exact glb4
        clear h5
        have hu5 := hu.same s5
        refine hu5.own.front hp (by decide) fun v1 r1 => ?_
        rw [th3_take] at r1
        have ht1 : (X.take p).length = p := by rw [List.length_take]; omega
        refine OwnS.append (σ := σ5.bump 7) (n := 0) (cs := []) (m := p) (c := th3 (X.take p)) (.nil 3 _) (fun K hK => src_rdO (r1.keep fun _ _ => rfl) K hK) (fun h => by subst h; rfl) (by rw [th3_len, ht1]) (th3_one _) rfl (by omega) (by simp [blkOf]) ?_
        intro u1 σ6 own1 hn6 hg6 hb6
        rw [List.nil_append, Nat.zero_add] at own1
        have k6 : ∀ b, b < σ5.next → σ6.get b = σ5.get b := fun b h => hg6 b (by simp [blkOf]) (by omega)
        refine ldnq (gB ((k6 cb (by omega)).trans gc5)) rfl (by simp) ?_
        refine cellOkW_agg rfl rfl ?_
        refine To.go ?_
        simp only [Mem.next_bump] at hn6
        have s56 : σ5.Same σ6 := ⟨by omega, k6⟩
        obtain ⟨z, hz⟩ : ∃ z : Th, z = ⟨w, true, .slice tb 0 m (.ex m), rfl, .coin w i⟩ := ⟨_, rfl⟩
        have hub6 : ∀ b ∈ blkOf u1, σ5.next ≤ b ∧ b < σ6.next := by
          intro b hb
          rcases hb6 b hb with h | h
          · simp [blkOf] at h
          · omega
        refine Own.push (σ := σ5) (m := 1) (c := th3 [z]) (cs := th3 (X.take p)) (n := p) ⟨own1, hub6⟩ s56 (by rw [hz]; rfl) (by omega) (by omega) (by omega) rfl (th3_one _) (th3_one _) (by omega) ?_ (by simp only [Mem.next_put, Mem.next_bump]; omega)
        intro u2 σ7 own2 s57 hid7 _ _
        rw [th3_append] at own2
        have hu7 := hu5.same s57
        refine hu7.own.back hp (by decide) fun v3 r3 => ?_
        rw [th3_drop] at r3
        have ht3 : (X.drop p).length = X.length - p := by rw [List.length_drop]
        refine OwnS.append (σ := σ7.bump 6) (n := p + 1) (m := X.length - p) (c := th3 (X.drop p)) (own2.1.keep fun _ _ => rfl) (fun K hK => src_rdO (r3.keep fun _ _ => rfl) K hK) (fun h => by
          have : X.drop p = [] := List.length_eq_zero_iff.1 (by omega)
          rw [this]; rfl) (by rw [th3_len, ht3]) (th3_one _) (th3_one _) (by omega) (fun h => by have := (own2.2 _ h).2; omega) ?_
        intro u3 σ8 own3 hn8 hg8 hb8
        rw [th3_append] at own3
        simp only [Mem.next_bump] at hn8
        have n57 := s57.next
        have k8 : ∀ b, b < σ5.next → σ8.get b = σ5.get b := fun b h => (hg8 b (fun h' => by have := (own2.2 _ h').1; omega) (by omega)).trans (s57.get b h)
        have s58 : σ5.Same σ8 := ⟨by omega, k8⟩
        have s28 := s5.trans s58
        refine ifD (fun h1' => ?_) (fun h1' => ?_)
        · have hn1 : n = 1 := by omega
          refine wrI (m := i) (σ := σ8.bump 6) ((k8 lb (by omega)).trans glb5) hZl rfl him ?_
          have hone' := hone hn1
          refine done _ (Z.set i 1) ?_ (gB gS') ?_ ?_
          · obtain ⟨j, hj, h0', hc, huq⟩ := coins_one (L := L) (by omega)
            obtain rfl : i = j := huq i hil (by omega)
            rw [limit_one hc, hm, ← hZ]
            refine List.ext_getElem (by rw [List.length_set, arr_len, arr_len]) fun j h1 h2 => ?_
            rw [List.getElem_set]
            simp only [arr, List.getElem_map, List.getElem_range]
          · exact Mem.Same.bump (Mem.Same.put ((s2.trans s28).bump _) (by omega) _) _
          · have := s28.next; simp only [Mem.next_bump, Mem.next_put]; omega
        · unfold F_ref02_Limit_j2
          refine iW_of (by omega) ?_
          have n28 := s28.next
          refine again ⟨i + 1, ⟨by omega, by omega, (((s2.trans s28).bump _).bump _), by simp only [Mem.next_bump]; omega, gB (gB ((k8 lb (by omega)).trans glb5)), fun h => absurd h (by omega), X.take p ++ [z] ++ X.drop p, ⟨?_, ?_, ?_, ?_⟩⟩, by omega⟩
          · rw [show (X.take p ++ [z] ++ X.drop p).length = p + 1 + (X.length - p) from by simp only [List.length_append, List.length_cons, List.length_nil]; omega]
            exact own3.keep fun _ _ => rfl
          · rw [e, isort_snoc, hins, List.map_append, List.map_append, List.map_take, List.map_drop, hu.ts, hz]; simp
          · intro x hx
            rcases List.mem_append.1 hx with hx | hx
            · rcases List.mem_append.1 hx with hx | hx
              · exact (hu5.rep x (List.mem_of_mem_take hx)).frame (by have := s58.next; simp only [Mem.next_bump]; omega) fun b hb _ => k8 b hb
              · rw [List.mem_singleton] at hx
                subst hx
                rw [hz]
                exact ⟨rfl, tb, rfl, by omega, by simp only [Mem.next_bump]; omega, (k8 tb (by omega)).trans gt5⟩
            · exact (hu5.rep x (List.mem_of_mem_drop hx)).frame (by have := s58.next; simp only [Mem.next_bump]; omega) fun b hb _ => k8 b hb
          · intro b hb
            simp only [Mem.next_bump]
            rcases hb8 b hb with h | h
            · have := own2.2 b h; omega
            · omega
  · obtain rfl : i = m := by omega
    have hCe : coinsTo L i = coinsOf L := by rw [← hm]; rfl
    rw [hCe] at hu hone
    have hn1 : n ≠ 1 := by
      intro h
      have := hone h
      rw [this] at hn
      simp at hn; omega
    obtain ⟨Cs, hCs⟩ : ∃ Cs, isort (coinsOf L) = Cs := ⟨_, rfl⟩
    have hCsl : Cs.length = n := by rw [← hCs, isort_len, hn]
    have hCsrt : Srt Pm.wt Cs := by rw [← hCs]; exact (isort_ss _).2
    rw [hCs] at hu
    have hrp := rowP_rows hLn (C := Cs) (fun x hx => by rw [← hCs, isort_mem] at hx; exact hx)
    obtain ⟨σ3, h3'⟩ : ∃ σ3, σ3 = σ2.bump 7 := ⟨_, rfl⟩
    rw [← h3']
    have s3 : σ2.Same σ3 := by rw [h3']; exact (Mem.Same.refl σ2).bump _
    have hu3 := hu.same s3
    have glb3 : σ3.get lb = some (.rw (ic Z)) := by rw [h3']; exact glb
    have n3 := s3.next
    clear h3'
    have s03 := s2.trans s3
    refine loop2 (fun (k : Nat) (row : AV) (y : Int) σ' => y = ((k + 1 : Nat) : Int) ∧ k ≤ mt - 1 ∧ σ3.Same σ' ∧ ∃ XR, RowT lb i σ' row XR (rows Cs k)) (fun k => mt - 1 - k) 0 ⟨rfl, by omega, Mem.Same.refl σ3, X, hu3⟩ ?_
    rintro k row _ σ4 ⟨rfl, hk, s4, XR, hR⟩
    unfold F_ref02_Limit_l4
    have n4 := s4.next
    have hrl := rows_le Cs k
    have ha4 := ha.keep (hf (s03.trans s4))
    have hwt : ∀ t ∈ rows Cs k, (0 ≤ t.wt ∧ t.wt ≤ 2 ^ 60) ∧ t.sz ≤ 2 ^ 20 := by
      intro t ht
      have h := hrp k t ht
      have hp : (2 : Nat) ^ k ≤ 2 ^ 15 := pow_le (by omega)
      have hp' : (2 : Int) ^ k ≤ 2 ^ 15 := by exact_mod_cast hp
      have h' : (1000000000 : Int) * 2 ^ k ≤ 1000000000 * 2 ^ 15 := Int.mul_le_mul_of_nonneg_left hp' (by decide)
      have h1 := h.1.2
      have h2 := h.2.1
      exact ⟨⟨h.1.1, by omega⟩, by omega⟩
    refine ifD (fun hlt => ?_) (fun hge => ?_)
    · refine ref02_next (σ := σ4.bump 5) (ha4.keep fun _ _ => rfl) (fun b hb => by have := hla b hb; have := s03.next; simp only [Mem.next_bump]; omega) hm (by omega) (by simp only [Mem.next_bump]; omega) ((hu3.same s4).same ((Mem.Same.refl σ4).bump _)) (hR.same ((Mem.Same.refl σ4).bump _)) (by omega) (by omega) (by omega) hwt ?_
      intro u' X' σ' h' s'
      rw [← rows_mrg hCsrt] at h'
      exact again ⟨k + 1, ⟨rfl, by omega, s4.trans s'.ob, X', h'⟩, by omega⟩
    · obtain rfl : k = mt - 1 := by omega
      have hlen := rows_len Cs (mt - 1) 2 (by
        have : 2 * 2 ^ (mt - 1) = 2 ^ mt := by
          obtain ⟨m, rfl⟩ : ∃ m, mt = m + 1 := ⟨mt - 1, by omega⟩
          rw [Nat.add_sub_cancel, Nat.pow_succ, Nat.mul_comm]
        omega)
      have glb4 : σ4.get lb = some (.rw (ic Z)) := (s4.get lb (by omega)).trans glb3
      refine ref02_sums (σ := σ4.bump 4) (ha4.keep fun _ _ => rfl) (fun b hb => by have := hla b hb; have := s03.next; simp only [Mem.next_bump]; omega) hm (by omega) (by simp only [Mem.next_bump]; omega) hlb rfl (hR.same ((Mem.Same.refl σ4).bump _)) (by omega) (by omega) hZl hZ0 glb4 (fun t ht => (hwt t ht).2) ?_
      intro σ5 o5 g5
      have n5 := o5.next
      simp only [Mem.next_bump] at n5
      refine done _ _ ?_ g5 ?_ (by omega)
      · rw [haddc]
        unfold limit
        rw [if_neg (by omega), hCs, hn, hm]
      · refine ⟨by have := s03.next; omega, fun b' hb' => ?_⟩
        have := s03.next
        rw [o5.get b' (by simp only [Mem.next_bump]; omega) (by simp; omega)]
        exact (s03.trans s4).get b' hb'
end
end Go.Vit
