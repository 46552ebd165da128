/- The document's answer: the whole. -/
import Derived.Test.YtjddffdjbeemaaaV3RA
set_option linter.unusedVariables false
set_option linter.unusedSimpArgs false
set_option linter.unusedSimpArgs false
set_option maxRecDepth 20000
namespace Go.Vit
open Go.Proofs
def rinflI (σ : Mem) (s : ByteArray) (most : Int) (F : Nat) (R : Except Int (List UInt8 × Nat)) (x r : Nat) (f : Nat) (last : Int) (σ' : Mem) : Prop :=
  ∃ o out v, σ.Same σ' ∧ (∀ b ∈ o, σ.next ≤ b) ∧ ((∃ q, Rmv σ' o x r s q most out v 0 ∧ (if last = 0 then rBlocks most F f out s q = R ∧ 8 * s.size < f + q else R = .ok (out, q))) ∨ ∃ z q, z ≠ 0 ∧ R = .error z ∧ Rmv σ' o x r s q most out v z)
theorem ref03_Inflate_j1 {σ σ1 : Mem} {s : ByteArray} {most : Int} {R : Except Int (List UInt8 × Nat)} {x r : Nat} {o : List Nat} {out : List UInt8} {v : AV} (hx : σ.next + 8 = x) (s1 : σ.Same σ1)
    (h : (∃ q, Rmv σ1 o x r s q most out v 0 ∧ R = .ok (out, q)) ∨ ∃ z q, z ≠ 0 ∧ R = .error z ∧ Rmv σ1 o x r s q most out v z) : F_ref03_Inflate_j1 (fun w σ' => w = inflR R ∧ σ.Same σ') σ σ1 := by
  unfold F_ref03_Inflate_j1
  rw [hx]
  rcases h with ⟨q, h, rfl⟩ | ⟨z, q, hz, rfl, h⟩
  · have hle := h.le
    have hsz := h.sz
    repeat (first | refine To.go ?_ | with_reducible refine And.intro (by first | omega | exact ⟨rfl, rfl⟩) ?_ | ((with_reducible apply opt); (· (first | with_reducible assumption | rfl))) | ((with_reducible apply ldrw); (· (first | with_reducible assumption | (simp (disch := omega) only [go_sem, *]; try rfl))); (· (first | with_reducible assumption | rfl))) | ((with_reducible apply ldro); (· (first | with_reducible assumption | (simp (disch := omega) only [go_sem, *]; try rfl))); (· (first | with_reducible assumption | rfl))) | ((with_reducible apply st1); (· (first | with_reducible assumption | (simp (disch := omega) only [go_sem, *]; try rfl))); (· simp); (· rfl)) | with_reducible refine ifT rfl ?_ | with_reducible refine ifF (not_not_intro rfl) ?_ | with_reducible refine ifT (by omega) ?_ | with_reducible refine ifF (by omega) ?_)
    refine ldrw h.gx (v := .int .i64 0) rfl ?_
    repeat (first | refine To.go ?_ | with_reducible refine And.intro (by first | omega | exact ⟨rfl, rfl⟩) ?_ | ((with_reducible apply opt); (· (first | with_reducible assumption | rfl))) | ((with_reducible apply ldrw); (· (first | with_reducible assumption | (simp (disch := omega) only [go_sem, *]; try rfl))); (· (first | with_reducible assumption | rfl))) | ((with_reducible apply ldro); (· (first | with_reducible assumption | (simp (disch := omega) only [go_sem, *]; try rfl))); (· (first | with_reducible assumption | rfl))) | ((with_reducible apply st1); (· (first | with_reducible assumption | (simp (disch := omega) only [go_sem, *]; try rfl))); (· simp); (· rfl)) | with_reducible refine ifT rfl ?_ | with_reducible refine ifF (not_not_intro rfl) ?_ | with_reducible refine ifT (by omega) ?_ | with_reducible refine ifF (by omega) ?_)
    refine ldrw h.gx (v := v) rfl ?_
    refine OwnS.bstr (σ := σ1.bump 22) (h.own.keep fun _ _ => rfl) ?_
    repeat (first | refine To.go ?_ | with_reducible refine And.intro (by first | omega | exact ⟨rfl, rfl⟩) ?_ | ((with_reducible apply opt); (· (first | with_reducible assumption | rfl))) | ((with_reducible apply ldrw); (· (first | with_reducible assumption | (simp (disch := omega) only [go_sem, *]; try rfl))); (· (first | with_reducible assumption | rfl))) | ((with_reducible apply ldro); (· (first | with_reducible assumption | (simp (disch := omega) only [go_sem, *]; try rfl))); (· (first | with_reducible assumption | rfl))) | ((with_reducible apply st1); (· (first | with_reducible assumption | (simp (disch := omega) only [go_sem, *]; try rfl))); (· simp); (· rfl)) | with_reducible refine ifT rfl ?_ | with_reducible refine ifF (not_not_intro rfl) ?_ | with_reducible refine ifT (by omega) ?_ | with_reducible refine ifF (by omega) ?_)
    refine ldrw h.gx (v := .ptr r 0) rfl ?_
    repeat (first | refine To.go ?_ | with_reducible refine And.intro (by first | omega | exact ⟨rfl, rfl⟩) ?_ | ((with_reducible apply opt); (· (first | with_reducible assumption | rfl))) | ((with_reducible apply ldrw); (· (first | with_reducible assumption | (simp (disch := omega) only [go_sem, *]; try rfl))); (· (first | with_reducible assumption | rfl))) | ((with_reducible apply ldro); (· (first | with_reducible assumption | (simp (disch := omega) only [go_sem, *]; try rfl))); (· (first | with_reducible assumption | rfl))) | ((with_reducible apply st1); (· (first | with_reducible assumption | (simp (disch := omega) only [go_sem, *]; try rfl))); (· simp); (· rfl)) | with_reducible refine ifT rfl ?_ | with_reducible refine ifF (not_not_intro rfl) ?_ | with_reducible refine ifT (by omega) ?_ | with_reducible refine ifF (by omega) ?_)
    refine ldrw (l := [.str s, .int .i64 (q : Nat)]) (by exact h.gr) (v := .int .i64 (q : Nat)) rfl ?_
    repeat (first | refine To.go ?_ | with_reducible refine And.intro (by first | omega | exact ⟨rfl, rfl⟩) ?_ | ((with_reducible apply opt); (· (first | with_reducible assumption | rfl))) | ((with_reducible apply ldrw); (· (first | with_reducible assumption | (simp (disch := omega) only [go_sem, *]; try rfl))); (· (first | with_reducible assumption | rfl))) | ((with_reducible apply ldro); (· (first | with_reducible assumption | (simp (disch := omega) only [go_sem, *]; try rfl))); (· (first | with_reducible assumption | rfl))) | ((with_reducible apply st1); (· (first | with_reducible assumption | (simp (disch := omega) only [go_sem, *]; try rfl))); (· simp); (· rfl)) | with_reducible refine ifT rfl ?_ | with_reducible refine ifF (not_not_intro rfl) ?_ | with_reducible refine ifT (by omega) ?_ | with_reducible refine ifF (by omega) ?_)
    refine ⟨?_, s1.bump _⟩
    show _ = AV.tup _
    rw [show ((q : Int) + 7) / 8 = (((q + 7) / 8 : Nat) : Int) from by omega]
  · repeat (first | refine To.go ?_ | with_reducible refine And.intro (by first | omega | exact ⟨rfl, rfl⟩) ?_ | ((with_reducible apply opt); (· (first | with_reducible assumption | rfl))) | ((with_reducible apply ldrw); (· (first | with_reducible assumption | (simp (disch := omega) only [go_sem, *]; try rfl))); (· (first | with_reducible assumption | rfl))) | ((with_reducible apply ldro); (· (first | with_reducible assumption | (simp (disch := omega) only [go_sem, *]; try rfl))); (· (first | with_reducible assumption | rfl))) | ((with_reducible apply st1); (· (first | with_reducible assumption | (simp (disch := omega) only [go_sem, *]; try rfl))); (· simp); (· rfl)) | with_reducible refine ifT rfl ?_ | with_reducible refine ifF (not_not_intro rfl) ?_ | with_reducible refine ifT (by omega) ?_ | with_reducible refine ifF (by omega) ?_)
    refine ldrw h.gx (v := .int .i64 z) rfl ?_
    refine To.go ?_
    refine ifT hz ?_
    repeat (first | refine To.go ?_ | with_reducible refine And.intro (by first | omega | exact ⟨rfl, rfl⟩) ?_ | ((with_reducible apply opt); (· (first | with_reducible assumption | rfl))) | ((with_reducible apply ldrw); (· (first | with_reducible assumption | (simp (disch := omega) only [go_sem, *]; try rfl))); (· (first | with_reducible assumption | rfl))) | ((with_reducible apply ldro); (· (first | with_reducible assumption | (simp (disch := omega) only [go_sem, *]; try rfl))); (· (first | with_reducible assumption | rfl))) | ((with_reducible apply st1); (· (first | with_reducible assumption | (simp (disch := omega) only [go_sem, *]; try rfl))); (· simp); (· rfl)) | with_reducible refine ifT rfl ?_ | with_reducible refine ifF (not_not_intro rfl) ?_ | with_reducible refine ifT (by omega) ?_ | with_reducible refine ifF (by omega) ?_)
    refine ldrw h.gx (v := .int .i64 z) rfl ?_
    repeat (first | refine To.go ?_ | with_reducible refine And.intro (by first | omega | exact ⟨rfl, rfl⟩) ?_ | ((with_reducible apply opt); (· (first | with_reducible assumption | rfl))) | ((with_reducible apply ldrw); (· (first | with_reducible assumption | (simp (disch := omega) only [go_sem, *]; try rfl))); (· (first | with_reducible assumption | rfl))) | ((with_reducible apply ldro); (· (first | with_reducible assumption | (simp (disch := omega) only [go_sem, *]; try rfl))); (· (first | with_reducible assumption | rfl))) | ((with_reducible apply st1); (· (first | with_reducible assumption | (simp (disch := omega) only [go_sem, *]; try rfl))); (· simp); (· rfl)) | with_reducible refine ifT rfl ?_ | with_reducible refine ifF (not_not_intro rfl) ?_ | with_reducible refine ifT (by omega) ?_ | with_reducible refine ifF (by omega) ?_)
    exact ⟨rfl, s1.bump _⟩
theorem ref03_Inflate {σ : Mem} {s : ByteArray} {most : Int} {F : Nat} (hs : s.size ≤ 2 ^ 40) (hm : -9223372036854775808 ≤ most ∧ most ≤ 2 ^ 40) (hF : 8 * s.size < F) :
    ACalls PG n_ref03_Inflate [.str s, .int .i64 most] σ fun w σ' => w = inflR (rInfl most F s 0) ∧ σ.Same σ' := by
  refine ok_ref03_Inflate fun live => ?_
  unfold F_ref03_Inflate
  obtain ⟨R, hRR⟩ : ∃ R, rInfl most F s 0 = R := ⟨_, rfl⟩
  rw [hRR]
  obtain ⟨r, hr⟩ : ∃ r, σ.next + 5 = r := ⟨_, rfl⟩
  obtain ⟨x, hx⟩ : ∃ r, σ.next + 8 = r := ⟨_, rfl⟩
  rw [hr, hx]
  refine And.intro rfl ?_
  refine To.go ?_
  refine And.intro rfl ?_
  refine To.go ?_
  refine joinI ?_
  refine loop1 (rinflI σ s most F R x r) (fun f => f) F ⟨[x, r], [], .nils, ?_, ?_, .inl ⟨0, ?_, hRR, by omega⟩⟩ ?_
  · repeat (with_reducible first | assumption | exact Mem.Only.refl _ _ | exact Mem.Same.refl _ | refine Mem.Only.bump ?_ _ | refine Mem.Only.put ?_ (by simp) _ | refine Mem.Only.put ?_ (.inr (by first | omega | (simp only [Mem.next_bump, Mem.next_put]; omega))) _ | refine Mem.Same.bump ?_ _ | refine Mem.Same.put ?_ (by first | omega | (simp only [Mem.next_bump, Mem.next_put]; omega)) _)
  · intro b hb
    simp only [List.mem_cons, List.not_mem_nil, or_false] at hb
    omega
  · refine ⟨rfl, by omega, by simp [blkOf], by simp [blkOf], ?_, ?_, OwnS.nil 1 _, Nat.zero_le _, fun b hb => ?_, .inl rfl, hm, hs⟩
    · rw [Mem.get_bump, gS']
    · rw [Mem.get_bump, Mem.get_put_ne _ (by omega), gS']; rfl
    · simp only [Mem.next_put, Mem.next_bump]
      simp only [List.mem_cons, List.not_mem_nil, or_false] at hb
      omega
  rintro f last σ1 ⟨o, out, v, s1, ho, hst⟩
  have n1 := s1.next
  unfold F_ref03_Inflate_l1
  rw [hx]
  refine ifD (fun h0 => ?_) (fun h0 => ?_)
  · subst h0
    rcases hst with ⟨p, h, hR, hf⟩ | ⟨z, q, hz, hR, h⟩
    · have hle := h.le
      obtain ⟨f, rfl⟩ : ∃ f', f = f' + 1 := ⟨f - 1, by omega⟩
      unfold rBlocks at hR
      repeat (first | refine To.go ?_ | with_reducible refine And.intro (by first | omega | exact ⟨rfl, rfl⟩) ?_ | ((with_reducible apply opt); (· (first | with_reducible assumption | rfl))) | ((with_reducible apply ldrw); (· (first | with_reducible assumption | (simp (disch := omega) only [go_sem, *]; try rfl))); (· (first | with_reducible assumption | rfl))) | ((with_reducible apply ldro); (· (first | with_reducible assumption | (simp (disch := omega) only [go_sem, *]; try rfl))); (· (first | with_reducible assumption | rfl))) | ((with_reducible apply st1); (· (first | with_reducible assumption | (simp (disch := omega) only [go_sem, *]; try rfl))); (· simp); (· rfl)) | with_reducible refine ifT rfl ?_ | with_reducible refine ifF (not_not_intro rfl) ?_ | with_reducible refine ifT (by omega) ?_ | with_reducible refine ifF (by omega) ?_)
      refine ldrw h.gx (v := .int .i64 0) rfl ?_
      refine To.go ?_
      refine ifT rfl ?_
      have hsev : rSev [1, 2] [] = rBind (rBits 1) fun a => rBind (rBits 2) fun b => rPure ([] ++ [((a : Nat) : Int)] ++ [((b : Nat) : Int)]) := rfl
      rw [hsev, rBind_assoc] at hR
      have hdead : ∀ (σ2 : Mem) (z : Int) (q : Nat), Grow o o σ1 σ2 → z ≠ 0 → R = .error z → Rmv σ2 o x r s q most out v z → F_ref03_Inflate_j1 (fun w σ' => w = inflR R ∧ σ.Same σ') σ σ2 := fun σ2 z q g hz hR h => ref03_Inflate_j1 hx (g.same s1 ho).1 (.inr ⟨z, q, hz, hR, h⟩)
      refine callW_of (rbits_al (n := 1) (by omega) (h.bump 12)) ?_
      rintro _ σ2 ⟨a, rfl, ha, g2, h2⟩
      replace g2 := g2.ob
      refine To.go ?_
      cases e : rBits 1 s p with
      | error z =>
        rw [e] at h2
        rw [rBind_er e] at hR
        obtain ⟨hz, q2, h2⟩ := h2
        refine callW_of (rbits_dead (h2.bump 3) hz) ?_
        rintro _ σ3 ⟨rfl, s3⟩
        have h3 := h2.same s3.ob
        replace g2 := g2.then s3.ob
        repeat (first | refine To.go ?_ | with_reducible refine And.intro (by first | omega | exact ⟨rfl, rfl⟩) ?_ | ((with_reducible apply opt); (· (first | with_reducible assumption | rfl))) | ((with_reducible apply ldrw); (· (first | with_reducible assumption | (simp (disch := omega) only [go_sem, *]; try rfl))); (· (first | with_reducible assumption | rfl))) | ((with_reducible apply ldro); (· (first | with_reducible assumption | (simp (disch := omega) only [go_sem, *]; try rfl))); (· (first | with_reducible assumption | rfl))) | ((with_reducible apply st1); (· (first | with_reducible assumption | (simp (disch := omega) only [go_sem, *]; try rfl))); (· simp); (· rfl)) | with_reducible refine ifT rfl ?_ | with_reducible refine ifF (not_not_intro rfl) ?_ | with_reducible refine ifT (by omega) ?_ | with_reducible refine ifF (by omega) ?_)
        refine ldrw h3.gx (v := .int .i64 z) rfl ?_
        refine To.go ?_
        refine ifT hz ?_
        exact hdead _ z q2 (g2.bump _) hz hR.symm (h3.bump _)
      | ok y =>
        obtain ⟨a', q2⟩ := y
        rw [e] at h2
        rw [rBind_ok e, rBind_assoc] at hR
        obtain ⟨rfl, h2⟩ := h2
        have hq2 := (Fr.le (.bits 1) h.le e).1
        clear e
        refine callW_of (rbits_al (n := 2) (by omega) (h2.bump 3)) ?_
        rintro _ σ3 ⟨b, rfl, hb, g3, h3⟩
        replace g3 := g2.trans g3.ob
        refine To.go ?_
        cases e : rBits 2 s q2 with
        | error z =>
          rw [e] at h3
          rw [rBind_er e] at hR
          obtain ⟨hz, q3, h3⟩ := h3
          repeat (first | refine To.go ?_ | with_reducible refine And.intro (by first | omega | exact ⟨rfl, rfl⟩) ?_ | ((with_reducible apply opt); (· (first | with_reducible assumption | rfl))) | ((with_reducible apply ldrw); (· (first | with_reducible assumption | (simp (disch := omega) only [go_sem, *]; try rfl))); (· (first | with_reducible assumption | rfl))) | ((with_reducible apply ldro); (· (first | with_reducible assumption | (simp (disch := omega) only [go_sem, *]; try rfl))); (· (first | with_reducible assumption | rfl))) | ((with_reducible apply st1); (· (first | with_reducible assumption | (simp (disch := omega) only [go_sem, *]; try rfl))); (· simp); (· rfl)) | with_reducible refine ifT rfl ?_ | with_reducible refine ifF (not_not_intro rfl) ?_ | with_reducible refine ifT (by omega) ?_ | with_reducible refine ifF (by omega) ?_)
          refine ldrw h3.gx (v := .int .i64 z) rfl ?_
          refine To.go ?_
          refine ifT hz ?_
          exact hdead _ z q3 (g3.bump _) hz hR.symm (h3.bump _)
        | ok y =>
          obtain ⟨b', q3⟩ := y
          rw [e] at h3
          rw [rBind_ok e, rBind_pure] at hR
          obtain ⟨rfl, h3⟩ := h3
          have hq3 : q3 = q2 + 2 := by
            unfold rBits at e
            split at e
            · exact absurd e (by simp)
            · injection e with e
              exact (Prod.mk.inj e).2.symm
          clear e
          have d0 : (([] ++ [((a' : Nat) : Int)] ++ [((b' : Nat) : Int)]).getD 0 0) = (a' : Int) := rfl
          have d1 : (([] ++ [((a' : Nat) : Int)] ++ [((b' : Nat) : Int)]).getD 1 0) = (b' : Int) := rfl
          rw [d0, d1] at hR
          clear d0 d1 hsev
          repeat (first | refine To.go ?_ | with_reducible refine And.intro (by first | omega | exact ⟨rfl, rfl⟩) ?_ | ((with_reducible apply opt); (· (first | with_reducible assumption | rfl))) | ((with_reducible apply ldrw); (· (first | with_reducible assumption | (simp (disch := omega) only [go_sem, *]; try rfl))); (· (first | with_reducible assumption | rfl))) | ((with_reducible apply ldro); (· (first | with_reducible assumption | (simp (disch := omega) only [go_sem, *]; try rfl))); (· (first | with_reducible assumption | rfl))) | ((with_reducible apply st1); (· (first | with_reducible assumption | (simp (disch := omega) only [go_sem, *]; try rfl))); (· simp); (· rfl)) | with_reducible refine ifT rfl ?_ | with_reducible refine ifF (not_not_intro rfl) ?_ | with_reducible refine ifT (by omega) ?_ | with_reducible refine ifF (by omega) ?_)
          refine ldrw h3.gx (v := .int .i64 0) rfl ?_
          refine To.go ?_
          refine ifF (by decide) ?_
          -- a block's outcome
          have hfin : ∀ (σ4 : Mem), SymQ σ1 o x r s most rPure (rBlock most F (b' : Nat) out s q3) σ4 → Again (∃ j, rinflI σ s most F R x r j (a' : Nat) σ4 ∧ j < f + 1) := by
            intro σ4 hq
            obtain ⟨o', v', out', g', hq⟩ := hq.cases
            have hs' := g'.same s1 ho
            refine again ⟨f, ⟨o', out', v', hs'.1, hs'.2, ?_⟩, by omega⟩
            rcases hq with ⟨q', e, h'⟩ | ⟨z, q', hz, e, h'⟩
            · have hqq := (Fr.le (.block _ _ _ _) h3.le e).1
              rw [rBind_ok e] at hR
              refine .inl ⟨q', h', ?_⟩
              by_cases h1 : (a' : Int) = 1
              · rw [if_pos h1] at hR
                rw [if_neg (by omega)]
                exact hR.symm
              · rw [if_neg h1] at hR
                rw [if_pos (by omega)]
                exact ⟨hR, by omega⟩
            · rw [rBind_er e] at hR
              exact .inr ⟨z, q', hz, hR.symm, h'⟩
          clear hR
          refine joinI ?_
          unfold rBlock at hfin
          rcases (by omega : b' = 0 ∨ b' = 1 ∨ b' = 2 ∨ b' = 3) with rfl | rfl | rfl | rfl
          · rw [if_pos (show ((0 : Nat) : Int) = 0 by decide)] at hfin
            refine ifT rfl ?_
            refine callW_of (ref03_stored (k := rPure) (h3.bump 10) (rBind_rPure _ _ _)) ?_
            rintro _ σ4 hq
            exact hfin σ4 (SymQ.of (g3.bump 10) hq)
          · rw [if_neg (show ¬ ((1 : Nat) : Int) = 0 by decide), if_pos (show ((1 : Nat) : Int) = 1 by decide)] at hfin
            refine ifF (by decide) ?_
            refine joinI ?_
            refine ifT rfl ?_
            refine callW_of (ref03_Fixed (σ3.bump 16)) ?_
            rintro _ σ4 ⟨la, lb, rfl, ha1, hb1, hbl, s4⟩
            have hbl' : ∀ z ∈ blkOf lb, z < σ4.next ∧ z ≠ x := fun z hz => by
              have := hbl z (by simp [hz])
              have := h3.lt x (by rw [h3.eqo]; simp)
              simp only [Mem.next_bump] at *
              omega
            repeat (first | refine To.go ?_ | with_reducible refine And.intro (by first | omega | exact ⟨rfl, rfl⟩) ?_ | ((with_reducible apply opt); (· (first | with_reducible assumption | rfl))) | ((with_reducible apply ldrw); (· (first | with_reducible assumption | (simp (disch := omega) only [go_sem, *]; try rfl))); (· (first | with_reducible assumption | rfl))) | ((with_reducible apply ldro); (· (first | with_reducible assumption | (simp (disch := omega) only [go_sem, *]; try rfl))); (· (first | with_reducible assumption | rfl))) | ((with_reducible apply st1); (· (first | with_reducible assumption | (simp (disch := omega) only [go_sem, *]; try rfl))); (· simp); (· rfl)) | with_reducible refine ifT rfl ?_ | with_reducible refine ifF (not_not_intro rfl) ?_ | with_reducible refine ifT (by omega) ?_ | with_reducible refine ifF (by omega) ?_)
            refine callW_of (ref03_symbols (F := F) (σ := σ4.bump 4) ((h3.same s4.ob).bump 4) (ha1.keep fun _ _ => rfl) (hb1.keep fun _ _ => rfl) (fun z hz => by have := hbl' z hz; simp only [Mem.next_bump]; omega) (by rw [fixL_len]; omega) (by rw [fixD_len]; omega) (by omega)) ?_
            rintro _ σ5 hq
            exact hfin σ5 (SymQ.of ((g3.then s4.ob).bump 4) hq)
          · rw [if_neg (show ¬ ((2 : Nat) : Int) = 0 by decide), if_neg (show ¬ ((2 : Nat) : Int) = 1 by decide), if_pos (show ((2 : Nat) : Int) = 2 by decide)] at hfin
            refine ifF (by decide) ?_
            refine joinI ?_
            refine ifF (by decide) ?_
            refine joinI ?_
            refine ifT rfl ?_
            refine callW_of (ref03_lens (k := rPure) (h3.bump 19) (rBind_rPure _ _ _)) ?_
            rintro _ σ4 ⟨g4, la, lb, rfl, h4⟩
            have n4 := g4.only.next
            simp only [Mem.next_bump] at n4
            replace g4 := g3.trans g4.ob
            rcases h4 with ⟨l, d, q4, hl, h4, ha1, hb1, hbl, hl1, hl2⟩ | ⟨z, q4, hz, hl, h4⟩
            · have hl : rDyn s q3 = .ok ((l, d), q4) := hl.symm
              have hq4 := (Fr.le .dyn h3.le hl).1
              rw [rBind_ok hl] at hfin
              have hbl' : ∀ z ∈ blkOf lb, z < σ4.next ∧ z ≠ x := fun z hz => by
                have := hbl z (by simp [hz])
                have := h3.lt x (by rw [h3.eqo]; simp)
                simp only [Mem.next_bump] at *
                omega
              repeat (first | refine To.go ?_ | with_reducible refine And.intro (by first | omega | exact ⟨rfl, rfl⟩) ?_ | ((with_reducible apply opt); (· (first | with_reducible assumption | rfl))) | ((with_reducible apply ldrw); (· (first | with_reducible assumption | (simp (disch := omega) only [go_sem, *]; try rfl))); (· (first | with_reducible assumption | rfl))) | ((with_reducible apply ldro); (· (first | with_reducible assumption | (simp (disch := omega) only [go_sem, *]; try rfl))); (· (first | with_reducible assumption | rfl))) | ((with_reducible apply st1); (· (first | with_reducible assumption | (simp (disch := omega) only [go_sem, *]; try rfl))); (· simp); (· rfl)) | with_reducible refine ifT rfl ?_ | with_reducible refine ifF (not_not_intro rfl) ?_ | with_reducible refine ifT (by omega) ?_ | with_reducible refine ifF (by omega) ?_)
              refine ldrw h4.gx (v := .int .i64 0) rfl ?_
              refine To.go ?_
              refine joinI ?_
              refine ifT rfl ?_
              refine callW_of (ref03_symbols (F := F) (σ := σ4.bump 9) (h4.bump 9) (ha1.keep fun _ _ => rfl) (hb1.keep fun _ _ => rfl) (fun z hz => by have := hbl' z hz; simp only [Mem.next_bump]; omega) hl1 hl2 (by omega)) ?_
              rintro _ σ5 hq
              exact hfin σ5 (SymQ.of (g4.bump 9) hq)
            · rw [rBind_er hl] at hfin
              repeat (first | refine To.go ?_ | with_reducible refine And.intro (by first | omega | exact ⟨rfl, rfl⟩) ?_ | ((with_reducible apply opt); (· (first | with_reducible assumption | rfl))) | ((with_reducible apply ldrw); (· (first | with_reducible assumption | (simp (disch := omega) only [go_sem, *]; try rfl))); (· (first | with_reducible assumption | rfl))) | ((with_reducible apply ldro); (· (first | with_reducible assumption | (simp (disch := omega) only [go_sem, *]; try rfl))); (· (first | with_reducible assumption | rfl))) | ((with_reducible apply st1); (· (first | with_reducible assumption | (simp (disch := omega) only [go_sem, *]; try rfl))); (· simp); (· rfl)) | with_reducible refine ifT rfl ?_ | with_reducible refine ifF (not_not_intro rfl) ?_ | with_reducible refine ifT (by omega) ?_ | with_reducible refine ifF (by omega) ?_)
              refine ldrw h4.gx (v := .int .i64 z) rfl ?_
              refine To.go ?_
              refine joinI ?_
              refine ifF hz ?_
              exact hfin _ (SymQ.dead (g4.bump 5) hz rfl (h4.bump 5))
          · rw [if_neg (show ¬ ((3 : Nat) : Int) = 0 by decide), if_neg (show ¬ ((3 : Nat) : Int) = 1 by decide), if_neg (show ¬ ((3 : Nat) : Int) = 2 by decide)] at hfin
            refine ifF (by decide) ?_
            refine joinI ?_
            refine ifF (by decide) ?_
            refine joinI ?_
            refine ifF (by decide) ?_
            refine joinI ?_
            refine ifT rfl ?_
            repeat (first | refine To.go ?_ | with_reducible refine And.intro (by first | omega | exact ⟨rfl, rfl⟩) ?_ | ((with_reducible apply opt); (· (first | with_reducible assumption | rfl))) | ((with_reducible apply ldrw); (· (first | with_reducible assumption | (simp (disch := omega) only [go_sem, *]; try rfl))); (· (first | with_reducible assumption | rfl))) | ((with_reducible apply ldro); (· (first | with_reducible assumption | (simp (disch := omega) only [go_sem, *]; try rfl))); (· (first | with_reducible assumption | rfl))) | ((with_reducible apply st1); (· (first | with_reducible assumption | (simp (disch := omega) only [go_sem, *]; try rfl))); (· simp); (· rfl)) | with_reducible refine ifT rfl ?_ | with_reducible refine ifF (not_not_intro rfl) ?_ | with_reducible refine ifT (by omega) ?_ | with_reducible refine ifF (by omega) ?_)
            refine st1 h3.gx (by simp) rfl ?_
            have hs := (h3.bump 18).set 13
            exact hfin _ (SymQ.dead (g3.bump 18 |>.trans hs.2) (by decide) rfl hs.1)
    · repeat (first | refine To.go ?_ | with_reducible refine And.intro (by first | omega | exact ⟨rfl, rfl⟩) ?_ | ((with_reducible apply opt); (· (first | with_reducible assumption | rfl))) | ((with_reducible apply ldrw); (· (first | with_reducible assumption | (simp (disch := omega) only [go_sem, *]; try rfl))); (· (first | with_reducible assumption | rfl))) | ((with_reducible apply ldro); (· (first | with_reducible assumption | (simp (disch := omega) only [go_sem, *]; try rfl))); (· (first | with_reducible assumption | rfl))) | ((with_reducible apply st1); (· (first | with_reducible assumption | (simp (disch := omega) only [go_sem, *]; try rfl))); (· simp); (· rfl)) | with_reducible refine ifT rfl ?_ | with_reducible refine ifF (not_not_intro rfl) ?_ | with_reducible refine ifT (by omega) ?_ | with_reducible refine ifF (by omega) ?_)
      refine ldrw h.gx (v := .int .i64 z) rfl ?_
      refine To.go ?_
      refine ifF hz ?_
      exact ref03_Inflate_j1 hx (s1.bump _) (.inr ⟨z, q, hz, hR, h.bump _⟩)
  · refine ref03_Inflate_j1 (o := o) (out := out) (v := v) (r := r) (s := s) (most := most) hx (s1.bump 9) ?_
    rcases hst with ⟨q, h, hR⟩ | ⟨z, q, hz, hR, h⟩
    · rw [if_neg h0] at hR
      exact .inl ⟨q, h.bump _, hR⟩
    · exact .inr ⟨z, q, hz, hR, h.bump _⟩
end Go.Vit
