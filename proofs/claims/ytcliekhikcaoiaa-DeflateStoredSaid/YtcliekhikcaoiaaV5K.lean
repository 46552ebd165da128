/- The coins in items are counted. -/
import Derived.Test.YtcliekhikcaoiaaV5J
set_option linter.unusedVariables false
set_option linter.unusedSimpArgs false
set_option linter.unusedSimpArgs false
set_option maxRecDepth 20000
namespace Go.Vit
open Go.Proofs
def rep (ok : Nat → Prop) (σ : Mem) : Pm → It → Prop
  | .coin n s, x => x.n = n ∧ x.s = (s : Nat) ∧ x.v = .nils
  | .pair a b, x => x.n = a.wt + b.wt ∧ ∃ blk o c Y xa xb, x.v = .slice blk (o * 3) 2 c ∧ ok blk ∧ σ.get blk = some (.rw (ic3 Y)) ∧ Y[o]? = some xa ∧ Y[o + 1]? = some xb ∧ rep ok σ a xa ∧ rep ok σ b xb
theorem rep.wt {ok : Nat → Prop} {σ : Mem} : ∀ {t : Pm} {x : It}, rep ok σ t x → x.n = t.wt
  | .coin _ _, _, h => h.1
  | .pair _ _, _, h => h.1
theorem rep.frame {ok ok' : Nat → Prop} {σ σ' : Mem} (hk : ∀ b, ok b → ok' b ∧ σ'.get b = σ.get b) : ∀ {t : Pm} {x : It}, rep ok σ t x → rep ok' σ' t x
  | .coin _ _, _, h => h
  | .pair _ _, _, ⟨h1, blk, o, c, Y, xa, xb, h2, h3, h4, h5, h6, h7, h8⟩ => ⟨h1, blk, o, c, Y, xa, xb, h2, (hk blk h3).1, (hk blk h3).2.trans h4, h5, h6, h7.frame hk, h8.frame hk⟩
def Pm.nd : Pm → Nat
  | .coin _ _ => 1
  | .pair a b => 1 + a.nd + b.nd
def sumN (l : List Pm) : Nat := (l.map Pm.nd).sum
theorem sumN_mem {l : List Pm} {t : Pm} (h : t ∈ l) : t.nd ≤ sumN l := by
  induction l with
  | nil => simp at h
  | cons a l ih =>
    unfold sumN at ih ⊢
    rw [List.map_cons, List.sum_cons]
    rcases List.mem_cons.1 h with rfl | h
    · omega
    · have := ih h; omega
theorem nd_pos (t : Pm) : 1 ≤ t.nd := by cases t <;> unfold Pm.nd <;> omega
theorem sumC_le (i : Nat) : ∀ l : List Pm, sumC i l ≤ sumZ l
  | [] => Nat.le_refl _
  | a :: l => by
    have := sumC_le i l
    have := cnt_le i a
    unfold sumC sumZ at *
    simp only [List.map_cons, List.sum_cons]; omega
theorem sumZ_append (l m : List Pm) : sumZ (l ++ m) = sumZ l + sumZ m := by unfold sumZ; rw [List.map_append, List.sum_append]
theorem addc_len (A : List Int) (l : List Pm) : (addc A l).length = A.length := arr_len _ _
theorem addc_getD {A : List Int} {l : List Pm} {i : Nat} (h : i < A.length) : (addc A l).getD i 0 = A.getD i 0 + sumC i l := by
  unfold addc
  rw [getD_of (by rw [arr_len]; exact h)]
  simp [arr]
theorem addc_nil (A : List Int) : addc A [] = A := by
  refine List.ext_getElem (addc_len A []) fun i h1 h2 => ?_
  have := addc_getD (A := A) (l := []) h2
  rw [getD_of h1, getD_of h2] at this
  rw [this]; simp [sumC]
theorem addc_addc (A : List Int) (l m : List Pm) : addc (addc A l) m = addc A (l ++ m) := by
  refine List.ext_getElem (by rw [addc_len, addc_len, addc_len]) fun i h1 h2 => ?_
  have h3 : i < A.length := by rw [addc_len] at h2; exact h2
  have e1 := addc_getD (A := addc A l) (l := m) (by rw [addc_len]; exact h3)
  have e2 := addc_getD (A := A) (l := l) h3
  have e3 := addc_getD (A := A) (l := l ++ m) h3
  rw [getD_of h1] at e1
  rw [getD_of h2] at e3
  rw [e1, e2, e3, sumC_append]; omega
theorem addc_coin {A : List Int} {n : Int} {s : Nat} (h : s < A.length) : addc A [.coin n s] = A.set s (A.getD s 0 + 1) := by
  refine List.ext_getElem (by rw [addc_len, List.length_set]) fun i h1 h2 => ?_
  have h3 : i < A.length := by rw [addc_len] at h1; exact h1
  have e1 := addc_getD (A := A) (l := [.coin n s]) h3
  rw [getD_of h1] at e1
  rw [e1, sumC_one, Pm.cnt, List.getElem_set]
  by_cases hs : s = i
  · rw [if_pos hs, if_pos hs]; subst hs; rfl
  · rw [if_neg hs, if_neg hs, getD_of h3]; simp
theorem addc_pair (A : List Int) (a b : Pm) : addc A [.pair a b] = addc A [a, b] := by
  unfold addc
  refine arr_ext fun j _ => ?_
  congr 2
theorem huff_spend {ok : Nat → Prop} : ∀ (N : Nat) {σ : Mem} {A : List Int} {Z : List (Pm × It)} {Y : List It} {lb b o : Nat} {c1 c2 : Cap}, sumN (Z.map Prod.fst) ≤ N → σ.get lb = some (.rw (ic A)) → σ.get b = some (.rw (ic3 Y)) → lb < σ.next → b ≠ lb → b < σ.next → (∀ b, ok b → b ≠ lb ∧ b < σ.next) →
    (∀ i (h : i < Z.length), Y[o + i]? = some Z[i].2) → (∀ z ∈ Z, rep ok σ z.1 z.2 ∧ z.1.syb A.length) → (∀ i, 0 ≤ A.getD i 0 ∧ A.getD i 0 + sumZ (Z.map Prod.fst) ≤ 2 ^ 60) → Z.length ≤ 2 ^ 40 → A.length ≤ 2 ^ 40 →
    ACalls PG n_huff_spend [.slice lb 0 A.length c1, .slice b (o * 3) Z.length c2] σ fun _ σ' => Mem.Only [lb] σ σ' ∧ σ'.get lb = some (.rw (ic (addc A (Z.map Prod.fst)))) := by
  intro N
  induction N with
  | zero =>
    intro σ A Z Y lb b o c1 c2 hN hA hY hlb hne hb hok hZ hrep hbd hl hAl
    refine ok_huff_spend fun live => ?_
    unfold F_huff_spend
    have hZ0 : Z = [] := by
      cases Z with
      | nil => rfl
      | cons z Z =>
        exfalso
        unfold sumN at hN
        rw [List.map_cons, List.map_cons, List.sum_cons] at hN
        have := nd_pos z.1
        omega
    subst hZ0
    refine To.go ?_
    refine loop1 (fun (_ : Unit) (y : Int) σ' => y = 0 ∧ σ' = σ.bump 3) (fun _ => 0) () ⟨rfl, rfl⟩ ?_
    rintro _ _ _ ⟨rfl, rfl⟩
    unfold F_huff_spend_l1
    repeat (first | refine To.go ?_ | with_reducible refine And.intro (by first | omega | exact ⟨rfl, rfl⟩) ?_ | ((with_reducible apply opt); (· (first | with_reducible assumption | rfl))) | ((with_reducible apply ldrw); (· (first | with_reducible assumption | (simp (disch := omega) only [go_sem, *]; try rfl))); (· (first | with_reducible assumption | rfl))) | ((with_reducible apply ldro); (· (first | with_reducible assumption | (simp (disch := omega) only [go_sem, *]; try rfl))); (· (first | with_reducible assumption | rfl))) | ((with_reducible apply st1); (· (first | with_reducible assumption | (simp (disch := omega) only [go_sem, *]; try rfl))); (· simp); (· rfl)) | with_reducible refine ifT rfl ?_ | with_reducible refine ifF (not_not_intro rfl) ?_ | with_reducible refine ifT (by omega) ?_ | with_reducible refine ifF (by omega) ?_)
    rw [show List.map Prod.fst ([] : List (Pm × It)) = [] from rfl, addc_nil]
    exact ⟨⟨by simp only [Mem.next_bump]; omega, fun _ _ _ => rfl⟩, hA⟩
  | succ N ih =>
    intro σ A Z Y lb b o c1 c2 hN hA hY hlb hne hb hok hZ hrep hbd hl hAl
    refine ok_huff_spend fun live => ?_
    unfold F_huff_spend
    refine To.go ?_
    refine loop1 (fun (i : Nat) (y : Int) σ' => y = i ∧ i ≤ Z.length ∧ Mem.Only [lb] σ σ' ∧ σ'.get lb = some (.rw (ic (addc A ((Z.take i).map Prod.fst))))) (fun i => Z.length - i) 0 ⟨rfl, by omega, ⟨by simp only [Mem.next_bump]; omega, fun _ _ _ => rfl⟩, ?_⟩ ?_
    · rw [List.take_zero, show List.map Prod.fst ([] : List (Pm × It)) = [] from rfl, addc_nil]; exact hA
    rintro i _ σ1 ⟨rfl, hi, o1, e1⟩
    unfold F_huff_spend_l1
    have n1 := o1.next
    have get1 : ∀ b', b' < σ.next → b' ≠ lb → σ1.get b' = σ.get b' := fun b' h h' => o1.get b' h (by simpa using h')
    refine ifD (fun hlt => ?_) (fun hge => ?_)
    · have hil : i < Z.length := by omega
      have hz := hrep _ (List.getElem_mem hil)
      have hY1 : σ1.get b = some (.rw (ic3 Y)) := (get1 b hb hne).trans hY
      have hYi := hZ i hil
      have htake : (Z.take (i + 1)).map Prod.fst = (Z.take i).map Prod.fst ++ [Z[i].1] := by rw [List.take_succ_eq_append_getElem hil, List.map_append]; rfl
      have hsum : sumZ ((Z.take i).map Prod.fst) + Z[i].1.sz ≤ sumZ (Z.map Prod.fst) := by
        have : Z.map Prod.fst = (Z.take (i + 1)).map Prod.fst ++ (Z.drop (i + 1)).map Prod.fst := by rw [← List.map_append, List.take_append_drop]
        rw [this, htake, sumZ_append, sumZ_append]
        have : sumZ [Z[i].1] = Z[i].1.sz := by simp [sumZ]
        omega
      have hmem : Z[i].1 ∈ Z.map Prod.fst := List.mem_map_of_mem (List.getElem_mem hil)
      have hnd := sumN_mem hmem
      obtain ⟨z, hzz⟩ : ∃ z, Z[i] = z := ⟨_, rfl⟩
      rw [hzz] at hz hYi htake hsum hnd
      clear hzz hmem
      obtain ⟨t, x⟩ := z
      dsimp only at hz hYi htake hsum hnd
      have hoi := (List.getElem?_eq_some_iff.1 hYi).1
      refine And.intro (show 0 ≤ (i : Int) ∧ (i : Int) < (Z.length : Nat) by omega) ?_
      rw [Int.toNat_natCast]
      have hldn : ∀ {K : AV → Prop}, K (.agg (itC x)) → ldnW 3 (σ1.bump 5) (.ptr b (o * 3 + i * 3)) K := by
        intro K hK
        rw [← Nat.add_mul]
        refine ldnq (σ := σ1.bump 5) hY1 rfl ?_ ?_
        · rw [ic3_len]; omega
        · have hx : Y[o + i] = x := (List.getElem?_eq_some_iff.1 hYi).2
          unfold ic3; rw [flat_piece itC_len hoi, hx]; exact hK
      refine hldn ?_
      obtain ⟨nb, hnb⟩ : ∃ nb, σ1.next + 3 = nb := ⟨_, rfl⟩
      rw [hnb]
      refine To.go ?_
      refine stn gS' (by simp) (itC_len x) (itC_one x) ?_
      rw [setAt_whole (by rw [itC_len]; rfl)]
      obtain ⟨σ2, h2⟩ : ∃ σ2, σ2 = (((σ1.bump 5).put nb (some (.rw [.int .i64 0, .int .i64 0, .nils]))).put nb (some (.rw (itC x)))) := ⟨_, rfl⟩
      rw [← h2]
      have s2 : σ1.Same σ2 := by rw [h2]; repeat (with_reducible first | assumption | exact Mem.Only.refl _ _ | exact Mem.Same.refl _ | refine Mem.Only.bump ?_ _ | refine Mem.Only.put ?_ (by simp) _ | refine Mem.Only.put ?_ (.inr (by first | omega | (simp only [Mem.next_bump, Mem.next_put]; omega))) _ | refine Mem.Same.bump ?_ _ | refine Mem.Same.put ?_ (by first | omega | (simp only [Mem.next_bump, Mem.next_put]; omega)) _)
      have n2 : σ2.next = σ1.next + 5 := by rw [h2]; simp only [Mem.next_put, Mem.next_bump]
      have x2 : σ2.get nb = some (.rw [.int .i64 x.n, .int .i64 x.s, x.v]) := by rw [h2, gS']; rfl
      have e2 : σ2.get lb = some (.rw (ic (addc A ((Z.take i).map Prod.fst)))) := (s2.get lb (by omega)).trans e1
      clear h2
      have o2 : Mem.Only [lb] σ σ2 := o1.then s2
      refine To.go ?_
      refine ldrw x2 (v := x.v) rfl ?_
      obtain ⟨A1, hA1⟩ : ∃ A1, addc A ((Z.take i).map Prod.fst) = A1 := ⟨_, rfl⟩
      rw [hA1] at e2
      have hA1l : A1.length = A.length := by rw [← hA1, addc_len]
      have hA1b : ∀ j, 0 ≤ A1.getD j 0 ∧ A1.getD j 0 + t.sz ≤ 2 ^ 60 := by
        intro j
        have hj := hbd j
        by_cases hjl : j < A.length
        · have := addc_getD (A := A) (l := (Z.take i).map Prod.fst) hjl
          have h4 := sumC_le j ((Z.take i).map Prod.fst)
          rw [hA1] at this
          omega
        · have : A1.getD j 0 = 0 := by rw [List.getD_eq_getElem?_getD, List.getElem?_eq_none (by omega)]; rfl
          have h0 : A.getD j 0 = 0 := by rw [List.getD_eq_getElem?_getD, List.getElem?_eq_none (by omega)]; rfl
          omega
      have fin : ∀ σ3, Mem.Only [lb] σ2 σ3 → σ3.get lb = some (.rw (ic (addc A1 [t]))) → F_huff_spend_j1 (fun (y : Int) σ_1 => Again (∃ j, (y = (j : Nat) ∧ j ≤ Z.length ∧ Mem.Only [lb] σ σ_1 ∧ σ_1.get lb = some (.rw (ic (addc A ((Z.take j).map Prod.fst))))) ∧ Z.length - j < Z.length - i)) (i : Nat) σ3 := by
        intro σ3 o3 e3
        unfold F_huff_spend_j1
        refine iW_of (by omega) ?_
        refine again ⟨i + 1, ⟨by omega, by omega, (o2.trans o3).bump _, ?_⟩, by omega⟩
        rw [Mem.get_bump, e3, htake, ← hA1, addc_addc]
      cases t with
      | coin n s =>
        obtain ⟨⟨_, hs, hv⟩, hsl⟩ := hz
        have hsl : s < A.length := hsl
        rw [hv]
        refine To.go ?_
        refine joinI ?_
        refine To.go ?_
        refine To.go ?_
        refine To.go ?_
        refine ldrw x2 (v := .int .i64 x.s) rfl ?_
        refine To.go ?_
        rw [hs]
        have hget : A1[s]? = some (A1.getD s 0) := by rw [getD_of (by omega), List.getElem?_eq_getElem (by omega)]
        refine rdI (m := s) (σ := σ2.bump 11) e2 hA1l rfl hget ?_
        have := hA1b s
        refine iW_of (by omega) ?_
        refine wrI (m := s) (σ := σ2.bump 11) e2 hA1l rfl (by omega) ?_
        refine fin _ ⟨?_, fun b' hb' hn => ?_⟩ ?_
        · simp only [Mem.next_put, Mem.next_bump]; omega
        · rw [Mem.get_put_ne _ (by simpa using hn)]; rfl
        · rw [gS', addc_coin (by omega)]
      | pair ta tb =>
        obtain ⟨⟨_, blk, oo, cc, Y', xa, xb, hv, hokb, hgb, ha, hb', ra, rb⟩, hsl⟩ := hz
        rw [hv]
        refine To.go ?_
        refine joinI ?_
        refine To.go ?_
        refine To.go ?_
        rw [hv] at x2
        refine ldrw x2 (v := .slice blk (oo * 3) 2 cc) rfl ?_
        have hk := hok blk hokb
        have fr : ∀ b, ok b → ok b ∧ (σ2.bump 7).get b = σ.get b := fun b hb => ⟨hb, by
          rw [Mem.get_bump, s2.get b (by have := hok b hb; omega), get1 b (hok b hb).2 (hok b hb).1]⟩
        have hndp : ta.nd + tb.nd ≤ N := by unfold Pm.nd at hnd; omega
        have hszp : ta.sz + tb.sz = (Pm.pair ta tb).sz := rfl
        refine callW_of (show ACalls PG n_huff_spend [.slice lb 0 A.length c1, .slice blk (oo * 3) 2 cc] (σ2.bump 7) fun _ σ3 => Mem.Only [lb] σ2 σ3 ∧ σ3.get lb = some (.rw (ic (addc A1 [.pair ta tb]))) from ?_) fun _ σ3 h3 => fin σ3 h3.1 h3.2
        rw [← hA1l]
        have := ih (σ := σ2.bump 7) (A := A1) (Z := [(ta, xa), (tb, xb)]) (Y := Y') (lb := lb) (b := blk) (o := oo) (c1 := c1) (c2 := cc) (by simp [sumN]; omega) e2 ((fr blk hokb).2.trans hgb) (by simp only [Mem.next_bump]; omega) hk.1 (by simp only [Mem.next_bump]; omega) (fun b hb => by have := hok b hb; simp only [Mem.next_bump]; omega)
          (fun j hj => by
            match j, hj with
            | 0, _ => exact ha
            | 1, _ => exact hb')
          (fun z hz => by
            rw [hA1l]
            rcases List.mem_cons.1 hz with rfl | hz
            · exact ⟨ra.frame fr, hsl.1⟩
            · rw [List.mem_singleton] at hz
              subst hz
              exact ⟨rb.frame fr, hsl.2⟩)
          (fun j => by
            have := hA1b j
            have e : sumZ (List.map Prod.fst [(ta, xa), (tb, xb)]) = ta.sz + tb.sz := by simp [sumZ]
            rw [e]
            omega) (by simp) (by omega)
        refine this.mono fun _ σ3 h3 => ⟨?_, ?_⟩
        · exact ⟨by have := h3.1.next; simp only [Mem.next_bump] at this; omega, fun b hb hn => h3.1.get b (by simp only [Mem.next_bump]; omega) hn⟩
        · rw [addc_pair]; exact h3.2
    · obtain rfl : i = Z.length := by omega
      rw [List.take_length] at e1
      exact ⟨o1.bump _, e1⟩
end Go.Vit
