/- Limited codes: the next row. -/
import Derived.Test.YtcliekhikcaoiaaV5M
set_option linter.unusedVariables false
set_option linter.unusedSimpArgs false
set_option linter.unusedSimpArgs false
set_option maxRecDepth 20000
namespace Go.Vit
open Go.Proofs
theorem arg1_of {v : AV} {K : AV → Prop} (h : K v) : arg1W [v] K := h
theorem ic3_at {Y : List It} {j : Nat} (h : j < Y.length) {c : Nat} (hc : c < 3) : (ic3 Y)[j * 3 + c]? = (itC Y[j])[c]? := by
  have := flat_piece itC_len h
  rw [← this, List.getElem?_take_of_lt hc, List.getElem?_drop]; rfl
theorem pks_take : ∀ {l : List Pm} {i : Nat} {a b : Pm}, l[2 * i]? = some a → l[2 * i + 1]? = some b → pks (l.take (2 * (i + 1))) = pks (l.take (2 * i)) ++ [.pair a b]
  | a :: b :: r, 0, x, y, h1, h2 => by
    simp at h1 h2
    subst h1 h2
    simp [pks]
  | a :: b :: r, i + 1, x, y, h1, h2 => by
    have e1 : 2 * (i + 1) = 2 * i + 1 + 1 := by omega
    rw [e1] at h1 h2
    have ih := pks_take (l := r) (i := i) (a := x) (b := y) (by simpa using h1) (by simpa using h2)
    rw [show 2 * (i + 1 + 1) = 2 * (i + 1) + 1 + 1 from by omega, List.take_succ_cons, List.take_succ_cons, pks, ih, e1, List.take_succ_cons, List.take_succ_cons, pks]
    rfl
  | [], _, _, _, h, _ => by simp at h
  | [_], i, _, _, _, h => by simp at h
theorem pks_odd : ∀ {l : List Pm} {i : Nat}, l.length = 2 * i + 1 → pks l = pks (l.take (2 * i))
  | [a], 0, _ => rfl
  | a :: b :: r, 0, h => by simp at h
  | a :: b :: r, i + 1, h => by
    have ih := pks_odd (l := r) (i := i) (by simp at h; omega)
    rw [show 2 * (i + 1) = 2 * i + 1 + 1 from by omega, List.take_succ_cons, List.take_succ_cons, pks, pks, ih]
  | [], _, h => by simp at h
  | [a], i + 1, h => by simp at h
def okB (lb : Nat) (σ : Mem) (b : Nat) : Prop := b ≠ lb ∧ b < σ.next
theorem rep.same {lb : Nat} {σ σ' : Mem} (s : σ.Same σ') {t : Pm} {x : It} (h : rep (okB lb σ) σ t x) : rep (okB lb σ') σ' t x :=
  h.frame fun b hb => ⟨⟨hb.1, Nat.lt_of_lt_of_le hb.2 s.next⟩, s.get b hb.2⟩
structure RowM (lb : Nat) (σ : Mem) (u : AV) (X : List It) (R : List Pm) : Prop where
  own : OwnS 3 σ u (ic3 X) X.length
  ts : X.map (fun x => x.t) = R
  rep : ∀ x ∈ X, rep (okB lb σ) σ x.t x
  lt : ∀ b ∈ blkOf u, okB lb σ b
theorem RowM.same {lb : Nat} {σ σ' : Mem} {u : AV} {X : List It} {R : List Pm} (h : RowM lb σ u X R) (s : σ.Same σ') : RowM lb σ' u X R :=
  ⟨h.own.keep fun b hb => s.get b (h.lt b hb).2, h.ts, fun x hx => (h.rep x hx).same s, fun b hb => ⟨(h.lt b hb).1, Nat.lt_of_lt_of_le (h.lt b hb).2 s.next⟩⟩
theorem RowM.len {lb : Nat} {σ : Mem} {u : AV} {X : List It} {R : List Pm} (h : RowM lb σ u X R) : X.length = R.length := by rw [← h.ts, List.length_map]
def NextJ (lb : Nat) (τ : Mem) (nb p q : Nat) (P : List Pm) (row : AV) (σ' : Mem) : Prop :=
  ∃ XN u, σ'.get nb = some (.rw [u]) ∧ OwnS 3 σ' u (ic3 XN) XN.length ∧ (∀ b ∈ blkOf u, τ.next ≤ b ∧ b < σ'.next ∧ b ≠ p ∧ b ≠ q ∧ b ≠ nb) ∧ XN.map (fun x => x.t) = P ∧ (∀ x ∈ XN, rep (okB lb τ) τ x.t x) ∧ τ.Same σ' ∧
    σ'.get p = some (.rw [row]) ∧ σ'.get q = some (.rw [.int .i64 2]) ∧ p < σ'.next ∧ q < σ'.next ∧ nb < σ'.next
theorem limit_next {lb : Nat} {τ : Mem} {u : AV} {row : AV} {X XR : List It} {C R : List Pm} {Q : AV → Mem → Prop} {σ8 : Mem} {v20 v27 : Int} {k : Nat} {next : AV → Int → Mem → Prop}
    (hlb : lb < τ.next) (hX : RowM lb τ u X C) (hR : RowM lb τ row XR R) (hC1 : C.length ≤ 288) (hC0 : 0 < C.length) (hR0 : 0 < R.length) (hR1 : R.length ≤ 600) (hw : ∀ t ∈ R, 0 ≤ t.wt ∧ t.wt ≤ 2 ^ 50) (hk : (k : Int) < v27) (hv27 : v27 ≤ 20)
    (hn : ∀ u' X' σ', RowM lb σ' u' X' (isort (C ++ pks R)) → τ.Same σ' → next u' ((k + 1 : Nat) : Int) σ') : F_huff_Limit_l2 Q u σ8 v20 v27 next row (k : Nat) τ := by
  unfold F_huff_Limit_l2
  refine ifT hk ?_
  have hXl := hX.len
  have hRl := hR.len
  refine callW_of (slices_Clone_items (σ := τ.bump 5) (X := X) (hX.own.rdO.keep fun _ _ => rfl) (by omega) (by intro h; rw [h] at hXl; simp at hXl; omega)) ?_
  rintro w τ1 ⟨own1, s1⟩
  have n1 := s1.next
  simp only [Mem.next_bump] at n1
  have own1b : ∀ b ∈ blkOf w, τ.next + 5 ≤ b ∧ b < τ1.next := own1.2
  replace s1 := s1.ob
  obtain ⟨nb, hnb⟩ : ∃ nb, τ.next + 3 = nb := ⟨_, rfl⟩
  rw [hnb]
  refine To.go ?_
  refine st1 gS' (by simp) own1.1.one ?_
  obtain ⟨τ2, h2⟩ : ∃ τ2, τ2 = ((τ1.put nb (some (.rw [.nils]))).put nb (some (.rw ([.nils].set 0 w)))) := ⟨_, rfl⟩
  rw [← h2]
  have s2 : τ.Same τ2 := by rw [h2]; repeat (with_reducible first | assumption | exact Mem.Only.refl _ _ | exact Mem.Same.refl _ | refine Mem.Only.bump ?_ _ | refine Mem.Only.put ?_ (by simp) _ | refine Mem.Only.put ?_ (.inr (by first | omega | (simp only [Mem.next_bump, Mem.next_put]; omega))) _ | refine Mem.Same.bump ?_ _ | refine Mem.Same.put ?_ (by first | omega | (simp only [Mem.next_bump, Mem.next_put]; omega)) _)
  have n2 : τ2.next = τ1.next := by rw [h2]; rfl
  have e2 : τ2.get nb = some (.rw [w]) := by rw [h2, gS']; rfl
  have g2 : ∀ b, b ≠ nb → τ2.get b = τ1.get b := fun b hb => by rw [h2, Mem.get_put_ne _ hb, Mem.get_put_ne _ hb]
  clear h2
  have own2 : OwnS 3 τ2 w (ic3 X) X.length := own1.1.keep fun b hb => g2 b (by have := own1b b hb; omega)
  obtain ⟨rb, hrow, hrb, _⟩ := hR.own.sl (by omega)
  have hrbk := hR.lt rb (by rw [hrow]; simp [blkOf])
  refine callW_of (slices_Chunk (σ := τ2.bump 2) (v := row) (by rw [hrow]; rfl)) ?_
  rintro _ τ3 ⟨p, q, rfl, hp, hq, hp', hq', s3⟩
  have n3 := s3.next
  simp only [Mem.next_bump] at n3 hp' hq'
  replace s3 := s3.ob
  have hrb3 : τ3.get rb = some (.rw (ic3 XR)) := by rw [s3.get rb (by have := hrbk.2; omega), s2.get rb hrbk.2]; exact hrb
  have hpq : p ≠ q := by
    rintro rfl
    rw [hp] at hq
    rw [hrow] at hq
    simp at hq
  -- the pairs
  rw [hrow] at hp
  refine chunk_range (b := rb) (n := XR.length) (J := fun i σ' => NextJ lb τ nb p q (C ++ pks (R.take (2 * i))) (.slice rb 0 XR.length (.op 3)) σ') (by omega) ?_ ?_ ?_ ?_ ?_
  · rintro i σ' ⟨XN, u', h⟩
    exact ⟨h.2.2.2.2.2.2.1, h.2.2.2.2.2.2.2.1⟩
  · rintro i σ' m ⟨XN, u', h1, h2, h3, h4, h5, h6, h7, h8, h9, h10, h11⟩
    exact ⟨XN, u', h1, h2.keep fun _ _ => rfl, fun b hb => by have := h3 b hb; simp only [Mem.next_bump]; omega, h4, h5, h6.bump _, h7, h8, by simp only [Mem.next_bump]; omega, by simp only [Mem.next_bump]; omega, by simp only [Mem.next_bump]; omega⟩
  · refine ⟨X, w, ?_, own2.keep fun b hb => s3.get b (by have := own1b b hb; omega), fun b hb => ?_, ?_, fun x hx => hX.rep x hx, s2.trans s3, hp, hq, by omega, by omega, by omega⟩
    · rw [s3.get nb (by omega)]; exact e2
    · have := own1b b hb; omega
    · rw [hX.ts]; simp [pks]
  · rintro i σ' hi ⟨XN, u', h1, h2, h3, h4, h5, h6, h7, h8, h9, h10, h11⟩
    have hXNl : XN.length = C.length + i := by
      have := congrArg List.length h4
      rw [List.length_map, List.length_append, pks_len, List.length_take] at this
      omega
    have hgR : σ'.get rb = some (.rw (ic3 XR)) := (h6.get rb hrbk.2).trans hrb
    by_cases hodd : XR.length = 2 * i + 1
    · rw [show min 2 (XR.length - 2 * i) = 1 from by omega]
      refine arg1_of ?_
      refine To.go ?_
      refine joinI ?_
      refine ifF (by decide) ?_
      unfold F_huff_Limit_j3
      refine ⟨rfl, XN, u', h1, h2.keep fun _ _ => rfl, fun b hb => by have := h3 b hb; simp only [Mem.next_bump]; omega, ?_, h5, h6.bump _, h7, h8, by simp only [Mem.next_bump]; omega, by simp only [Mem.next_bump]; omega, by simp only [Mem.next_bump]; omega⟩
      rw [h4, List.take_of_length_le (l := R) (i := 2 * (i + 1)) (by omega), ← pks_odd (l := R) (i := i) (by omega)]
    · have hi1 : 2 * i + 1 < XR.length := by omega
      rw [show min 2 (XR.length - 2 * i) = 2 from by omega]
      refine arg1_of ?_
      refine To.go ?_
      refine joinI ?_
      refine ifT rfl ?_
      refine joinI ?_
      refine ldrw h1 (v := u') rfl ?_
      have hx0 : 2 * i < XR.length := by omega
      have w0 := (hR.rep _ (List.getElem_mem hx0)).wt
      have w1 := (hR.rep _ (List.getElem_mem hi1)).wt
      have m0 : XR[2 * i].t ∈ R := by rw [← hR.ts]; exact List.mem_map_of_mem (List.getElem_mem hx0)
      have m1 : XR[2 * i + 1].t ∈ R := by rw [← hR.ts]; exact List.mem_map_of_mem (List.getElem_mem hi1)
      have b0 := hw _ m0
      have b1 := hw _ m1
      have g0 : (ic3 XR)[2 * i * 3]? = some (.int .i64 XR[2 * i].n) := ic3_at hx0 (c := 0) (by decide)
      have g1 : (ic3 XR)[2 * i * 3 + 3]? = some (.int .i64 XR[2 * i + 1].n) := by
        rw [show 2 * i * 3 + 3 = (2 * i + 1) * 3 + 0 from by omega]; exact ic3_at hi1 (c := 0) (by decide)
      refine And.intro (show (0 : Int) ≤ 0 ∧ (0 : Int) < (2 : Nat) by decide) ?_
      refine To.go ?_
      refine To.go ?_
      refine ldrw (σ := σ'.bump 22) hgR (v := .int .i64 XR[2 * i].n) g0 ?_
      refine To.go ?_
      refine And.intro (show (0 : Int) ≤ 1 ∧ (1 : Int) < (2 : Nat) by decide) ?_
      refine To.go ?_
      refine To.go ?_
      refine ldrw (σ := σ'.bump 22) hgR (v := .int .i64 XR[2 * i + 1].n) g1 ?_
      refine To.go ?_
      refine iW_of (by omega) ?_
      refine To.go ?_
      refine h2.rdO.len ?_
      refine And.intro ⟨rfl, rfl⟩ ?_
      refine To.go ?_
      obtain ⟨tb, htb⟩ : ∃ b, σ'.next + 17 = b := ⟨_, rfl⟩
      obtain ⟨id, hid⟩ : ∃ b, σ'.next + 18 = b := ⟨_, rfl⟩
      rw [htb, hid]
      obtain ⟨σa, ha⟩ : ∃ σa, σa = (σ'.bump 22).put tb (some (.rw [.int .i64 0, .int .i64 0, .nils])) := ⟨_, rfl⟩
      rw [← ha]
      have sa : σ'.Same σa := by rw [ha]; repeat (with_reducible first | assumption | exact Mem.Only.refl _ _ | exact Mem.Same.refl _ | refine Mem.Only.bump ?_ _ | refine Mem.Only.put ?_ (by simp) _ | refine Mem.Only.put ?_ (.inr (by first | omega | (simp only [Mem.next_bump, Mem.next_put]; omega))) _ | refine Mem.Same.bump ?_ _ | refine Mem.Same.put ?_ (by first | omega | (simp only [Mem.next_bump, Mem.next_put]; omega)) _)
      have na : σa.next = σ'.next + 22 := by rw [ha]; rfl
      have ea : σa.get tb = some (.rw [.int .i64 0, .int .i64 0, .nils]) := by rw [ha, gS']
      clear ha
      refine OwnS.append (n := XN.length) (m := 1) (cs := ic3 XN) (c := ic3 [dI]) (h2.keep fun b hb => sa.get b (h3 b hb).2.1) (fun K hK => src_new ea rfl rfl K hK) (fun h => absurd h (by decide)) rfl (ic3_one _) (ic3_one _) (by omega) (fun hb => by have := h3 id hb; omega) ?_
      intro u2 σb own2b nb2 gb hub
      rw [ic3_append] at own2b
      have hu2 : ∀ b ∈ blkOf u2, τ.next ≤ b ∧ b < σb.next ∧ b ≠ p ∧ b ≠ q ∧ b ≠ nb := fun b hb => by
        rcases hub b hb with h | h
        · have := h3 b h; omega
        · omega
      obtain ⟨b2, rfl, hgb2, hlen2⟩ := own2b.sl (by omega)
      have hb2 := hu2 b2 (by simp [blkOf])
      have gb' : ∀ b, b < σ'.next → b ∉ blkOf u' → σb.get b = σ'.get b := fun b hb hn => by rw [gb b hn (by omega), sa.get b hb]
      have hnn : ∀ b, b = nb ∨ b = p ∨ b = q ∨ b < τ.next → b ∉ blkOf u' := fun b hb hm => by have := h3 b hm; have := hlb; omega
      have fb : ∀ b, b = nb ∨ b = p ∨ b = q ∨ b < τ.next → σb.get b = σ'.get b := fun b hb => gb' b (by have := h6.next; omega) (hnn b hb)
      refine And.intro (show (0 : Int) ≤ (XN.length : Nat) ∧ ((XN.length : Nat) : Int) < ((XN.length + 1 : Nat) : Int) by omega) ?_
      rw [Int.toNat_natCast, Nat.zero_add]
      -- the pair
      obtain ⟨z, hz⟩ : ∃ z : It, z = ⟨XR[2 * i].n + XR[2 * i + 1].n, 0, .slice rb (2 * i * 3) 2 (.ex 2), rfl, .pair XR[2 * i].t XR[2 * i + 1].t⟩ := ⟨_, rfl⟩
      have hzc : (AV.agg (setAt [.int .i64 (XR[2 * i].n + XR[2 * i + 1].n), .int .i64 0, .nils] 2 (AV.slice rb (2 * i * 3) 2 (.ex 2)).cells)) = .agg (itC z) := by rw [hz]; rfl
      rw [hzc]
      have hzr : rep (okB lb τ) τ z.t z := by
        rw [hz]
        refine ⟨?_, rb, 2 * i, .ex 2, XR, XR[2 * i], XR[2 * i + 1], rfl, hrbk, hrb, by rw [List.getElem?_eq_getElem hx0], by rw [List.getElem?_eq_getElem hi1], hR.rep _ (List.getElem_mem hx0), hR.rep _ (List.getElem_mem hi1)⟩
        show XR[2 * i].n + XR[2 * i + 1].n = _
        rw [w0, w1]
      have hzt : z.t = .pair XR[2 * i].t XR[2 * i + 1].t := by rw [hz]
      have hset : setAt (ic3 (XN ++ [dI])) (XN.length * 3) (itC z) = ic3 (XN ++ [z]) := by
        unfold ic3
        rw [flat_set itC_len _ _ _ (by simp)]
        congr 1
        rw [List.set_append_right _ _ (Nat.le_refl _), Nat.sub_self]; rfl
      have fin : ∀ σf : Mem, σf.next = σb.next → σf.get nb = some (.rw [.slice b2 0 (XN.length + 1) (.op 3)]) → σf.get b2 = some (.rw (ic3 (XN ++ [z]))) → (∀ b, b ≠ nb → b ≠ b2 → σf.get b = σb.get b) → F_huff_Limit_j4 (F_huff_Limit_j3 fun v σ'' => v = .bool true ∧ NextJ lb τ nb p q (C ++ pks (R.take (2 * (i + 1)))) (.slice rb 0 XR.length (.op 3)) σ'') σf := by
        intro σf nf f1 f2 f3
        unfold F_huff_Limit_j4 F_huff_Limit_j3
        have same : ∀ b, b = p ∨ b = q ∨ b < τ.next → σf.get b = σ'.get b := fun b hb => by rw [f3 b (by omega) (by omega), fb b (by omega)]
        refine ⟨rfl, XN ++ [z], .slice b2 0 (XN.length + 1) (.op 3), f1, ?_, ?_, ?_, ?_, ⟨?_, fun b hb => ?_⟩, ?_, ?_, by omega, by omega, by omega⟩
        · rw [show (XN ++ [z]).length = XN.length + 1 from by simp]
          exact .inr ⟨b2, rfl, f2, by rw [ic3_len]; simp⟩
        · intro b hb
          simp only [blkOf, List.mem_singleton] at hb
          omega
        · rw [List.map_append, h4, List.append_assoc]
          congr 1
          have e0 : R[2 * i]? = some XR[2 * i].t := by rw [← hR.ts, List.getElem?_map, List.getElem?_eq_getElem hx0]; rfl
          have e1 : R[2 * i + 1]? = some XR[2 * i + 1].t := by rw [← hR.ts, List.getElem?_map, List.getElem?_eq_getElem hi1]; rfl
          rw [pks_take e0 e1]
          simp [hzt]
        · intro x hx
          rcases List.mem_append.1 hx with hx | hx
          · exact h5 x hx
          · rw [List.mem_singleton] at hx; subst hx; exact hzr
        · have := h6.next; omega
        · rw [same b (by omega)]; exact h6.get b hb
        · rw [same p (by omega)]; exact h7
        · rw [same q (by omega)]; exact h8
      have hnb' : σb.get nb = some (.rw [u']) := (fb nb (by omega)).trans h1
      refine ⟨?_, ?_⟩
      · refine stn hgb2 (by rw [ic3_len]; simp; omega) (itC_len z) (itC_one z) ?_
        rw [hset]
        refine st1 (by rw [Mem.get_put_ne _ (by omega)]; exact hnb') (by simp) rfl ?_
        refine fin _ rfl (by rw [gS']; rfl) (by rw [Mem.get_put_ne _ (by omega), gS']) fun b h h' => by rw [Mem.get_put_ne _ h, Mem.get_put_ne _ h']
      · refine st1 hnb' (by simp) rfl ?_
        refine stn (by rw [Mem.get_put_ne _ (by omega)]; exact hgb2) (by rw [ic3_len]; simp; omega) (itC_len z) (itC_one z) ?_
        rw [hset]
        refine fin _ rfl (by rw [Mem.get_put_ne _ (by omega), gS']; rfl) gS' fun b h h' => by rw [Mem.get_put_ne _ h', Mem.get_put_ne _ h]
  · rintro i σ' hi ⟨XN, u', h1, h2, h3, h4, h5, h6, h7, h8, h9, h10, h11⟩
    rw [List.take_of_length_le (by omega)] at h4
    have hXNl : XN.length = C.length + R.length / 2 := by
      have := congrArg List.length h4
      rw [List.length_map, List.length_append, pks_len] at this
      omega
    refine ldrw h1 (v := u') rfl ?_
    obtain ⟨b2, rfl, hgb2, _⟩ := h2.sl (by omega)
    have hb2 := h3 b2 (by simp [blkOf])
    refine callW_of (I3.slices_SortStable (σ := σ'.bump 2) (X := XN) (b := b2) (c := .op 3) (key := fun x => x.n) (S := fun _ => True) (cmp := .func n_huff_byCount []) hgb2 (by simp only [Mem.next_bump]; omega) rfl (by omega) (fun _ _ => trivial) cmp_items) ?_
    rintro _ σs ⟨C', sC, oC, ar⟩
    have ns := ar.1.next
    simp only [Mem.next_bump] at ns
    refine ldrw (σ := σs.bump 2) (o := 0) (l := [.slice b2 0 XN.length (.op 3)]) ((ar.1.get nb (by simp only [Mem.next_bump]; omega) (by simp; omega)).trans h1) (v := .slice b2 0 XN.length (.op 3)) rfl ?_
    refine iW_of (by omega) ?_
    have sτ : τ.Same σs := by
      have := h6.next
      exact ⟨by omega, fun b hb => by rw [ar.1.get b (by simp only [Mem.next_bump]; omega) (by simp; omega)]; exact h6.get b hb⟩
    have hwt : ∀ x ∈ XN, x.t.wt = x.n := fun x hx => (h5 x hx).wt.symm
    have hl' : C'.length = XN.length := sC.1
    refine hn _ C' _ ?_ (sτ.bump _)
    refine RowM.same (σ := σs) ?_ ((Mem.Same.refl σs).bump _)
    refine ⟨?_, ?_, fun x hx => ?_, fun b hb => ?_⟩
    · rw [← hl']
      exact .inr ⟨b2, rfl, ar.2, by rw [ic3_len]⟩
    · refine isort_eq ?_ ?_
      · rw [← h4]; exact sC.map hwt
      · exact oC.map fun x hx => hwt x ((sC.mem x).1 hx)
    · exact (h5 x ((sC.mem x).1 hx)).same sτ
    · simp only [blkOf, List.mem_singleton] at hb
      subst hb
      exact ⟨by omega, by omega⟩
end Go.Vit
