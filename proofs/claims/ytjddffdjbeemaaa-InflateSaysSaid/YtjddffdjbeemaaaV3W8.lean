/- The stream: what codes say. -/
import Derived.Test.YtjddffdjbeemaaaV3W7
set_option linter.unusedVariables false
set_option linter.unusedSimpArgs false
set_option linter.unusedSimpArgs false
set_option maxRecDepth 20000
namespace Go.Vit
open Go.Proofs
theorem dec_gt {L : List Int} {s : ByteArray} : ∀ (k n c p : Nat), (dec L s k n c p).2.1 = 0 → p < (dec L s k n c p).2.2
  | 0, _, _, _, h => by unfold dec at h; exact absurd h (by simp)
  | k + 1, n, c, p, h => by
    unfold dec at h ⊢
    by_cases h1 : 8 * s.size ≤ p
    · rw [if_pos h1] at h; exact absurd h (by simp)
    · rw [if_neg h1] at h ⊢
      cases e : fnd L n (2 * c + bitAt s p) with
      | some i => exact Nat.lt_succ_self p
      | none =>
        rw [e] at h
        have := dec_gt k _ _ _ h
        dsimp only
        omega
theorem next_gt {L : List Int} {s : ByteArray} {p q : Nat} {c : Int} (h : rNext L s p = .ok (c, q)) : p < q := by
  unfold rNext at h
  split at h
  · rename_i h0
    injection h with h
    rw [← (Prod.mk.inj h).2]
    exact dec_gt _ _ _ _ h0
  · exact absurd h (by simp)
section
variable {σ σ' : Mem} {o : List Nat} {x r p : Nat} {s : ByteArray} {most : Int} {out : List UInt8} {v : AV}
theorem inflate_syms {σg : Mem} {lo hi t lo2 hi2 t2 F : Nat} {L D : List Int} {one : Int} {Q : AV → Mem → Prop} {k8 : Bool → Mem → Prop} (hx : x = σg.next + 7) (h : Smv σ o x r s p most out v)
    (hL : lens L) (hLl : L.length ≤ 2 ^ 20) (ht : TabB lo hi L σ t) (hhi : hi ≤ σ.next) (hto : ∀ b ∈ o, b < lo ∨ hi ≤ b)
    (hD : lens D) (hDl : D.length ≤ 2 ^ 20) (ht2 : TabB lo2 hi2 D σ t2) (hhi2 : hi2 ≤ σ.next) (hto2 : ∀ b ∈ o, b < lo2 ∨ hi2 ≤ b)
    (hF : 8 * s.size < F + p)
    (herr : ∀ e, rSyms most L D F out s p = .error e → ∀ o' σ', Grow o o' σ σ' → Q (.tup [.str ⟨#[]⟩, .int .i64 0, .int .i64 e]) σ')
    (hok : ∀ a q, rSyms most L D F out s p = .ok (a, q) → ∀ o' v' σ', Grow o o' σ σ' → Smv σ' o' x r s q most a v' → k8 (decide (one = 1)) σ') :
    loopF [] (F_inflate_Inflate_l2 Q σg k8 one (.ptr t 0) (.ptr t2 0)) σ := by
  obtain ⟨R, hR⟩ : ∃ R, rSyms most L D F out s p = R := ⟨_, rfl⟩
  rw [hR] at herr hok
  refine loop0 (fun (f : Nat) σ' => ∃ o' out' p' v', rSyms most L D f out' s p' = R ∧ 8 * s.size < f + p' ∧ Grow o o' σ σ' ∧ Smv σ' o' x r s p' most out' v') (fun f => f) F ⟨o, out, p, v, hR, hF, h.g0, h⟩ ?_
  clear hR hF
  rintro f σ1 ⟨o1, out1, p1, v1, hR, hF, g1, h1⟩
  have ht1 := ht.only g1.only hhi hto
  have ht21 := ht2.only g1.only hhi2 hto2
  have n1 := g1.only.next
  have hto1 : ∀ b ∈ o1, b < lo ∨ hi ≤ b := fun b hb => by
    rcases g1.new b hb with hm | hm
    · exact hto b hm
    · omega
  have hto21 : ∀ b ∈ o1, b < lo2 ∨ hi2 ≤ b := fun b hb => by
    rcases g1.new b hb with hm | hm
    · exact hto2 b hm
    · omega
  have hr : r < lo ∨ hi ≤ r := hto r (by rw [h.eqo]; simp)
  unfold F_inflate_Inflate_l2
  rw [← hx]
  have hle := h1.le
  obtain ⟨f, rfl⟩ : ∃ f', f = f' + 1 := ⟨f - 1, by omega⟩
  unfold rSyms at hR
  refine To.go ?_
  refine ldrw h1.gx (v := .ptr r 0) rfl ?_
  refine callW_of (Smv.next (h1.bump 11) hL (ht1.keep fun _ _ _ => rfl) (by simp only [Mem.next_bump]; omega) hr) ?_
  rintro w σ2 ⟨g2, _, hw⟩
  replace g2 := g1.trans g2.ob
  have n2 := g2.only.next
  cases e : rNext L s p1 with
  | error z =>
    rw [e] at hw
    obtain ⟨k, rfl⟩ := hw
    have hz := Fr.ne (.next L) h1.le e
    rw [rBind_er e] at hR
    repeat (first | refine To.go ?_ | with_reducible refine And.intro (by first | omega | exact ⟨rfl, rfl⟩) ?_ | ((with_reducible apply opt); (· (first | with_reducible assumption | rfl))) | ((with_reducible apply ldrw); (· (first | with_reducible assumption | (simp (disch := omega) only [go_sem, *]; try rfl))); (· (first | with_reducible assumption | rfl))) | ((with_reducible apply ldro); (· (first | with_reducible assumption | (simp (disch := omega) only [go_sem, *]; try rfl))); (· (first | with_reducible assumption | rfl))) | ((with_reducible apply st1); (· (first | with_reducible assumption | (simp (disch := omega) only [go_sem, *]; try rfl))); (· simp); (· rfl)) | with_reducible refine ifT rfl ?_ | with_reducible refine ifF (not_not_intro rfl) ?_ | with_reducible refine ifT (by omega) ?_ | with_reducible refine ifF (by omega) ?_)
    refine joinI ?_
    repeat (first | refine To.go ?_ | with_reducible refine And.intro (by first | omega | exact ⟨rfl, rfl⟩) ?_ | ((with_reducible apply opt); (· (first | with_reducible assumption | rfl))) | ((with_reducible apply ldrw); (· (first | with_reducible assumption | (simp (disch := omega) only [go_sem, *]; try rfl))); (· (first | with_reducible assumption | rfl))) | ((with_reducible apply ldro); (· (first | with_reducible assumption | (simp (disch := omega) only [go_sem, *]; try rfl))); (· (first | with_reducible assumption | rfl))) | ((with_reducible apply st1); (· (first | with_reducible assumption | (simp (disch := omega) only [go_sem, *]; try rfl))); (· simp); (· rfl)) | with_reducible refine ifT rfl ?_ | with_reducible refine ifF (not_not_intro rfl) ?_ | with_reducible refine ifT (by omega) ?_ | with_reducible refine ifF (by omega) ?_)
    unfold F_inflate_Inflate_j3
    repeat (first | refine To.go ?_ | with_reducible refine And.intro (by first | omega | exact ⟨rfl, rfl⟩) ?_ | ((with_reducible apply opt); (· (first | with_reducible assumption | rfl))) | ((with_reducible apply ldrw); (· (first | with_reducible assumption | (simp (disch := omega) only [go_sem, *]; try rfl))); (· (first | with_reducible assumption | rfl))) | ((with_reducible apply ldro); (· (first | with_reducible assumption | (simp (disch := omega) only [go_sem, *]; try rfl))); (· (first | with_reducible assumption | rfl))) | ((with_reducible apply st1); (· (first | with_reducible assumption | (simp (disch := omega) only [go_sem, *]; try rfl))); (· simp); (· rfl)) | with_reducible refine ifT rfl ?_ | with_reducible refine ifF (not_not_intro rfl) ?_ | with_reducible refine ifT (by omega) ?_ | with_reducible refine ifF (by omega) ?_)
    exact herr z hR.symm _ _ ((g2.bump _).bump _)
  | ok y =>
    obtain ⟨c, q⟩ := y
    rw [e] at hw
    obtain ⟨rfl, h2⟩ := hw
    rw [rBind_ok e] at hR
    obtain ⟨c, rfl, hc⟩ := next_lt e
    have hpq := next_gt e
    rw [Int.toNat_natCast] at hR
    have ht2' := ht2.only g2.only hhi2 hto2
    repeat (first | refine To.go ?_ | with_reducible refine And.intro (by first | omega | exact ⟨rfl, rfl⟩) ?_ | ((with_reducible apply opt); (· (first | with_reducible assumption | rfl))) | ((with_reducible apply ldrw); (· (first | with_reducible assumption | (simp (disch := omega) only [go_sem, *]; try rfl))); (· (first | with_reducible assumption | rfl))) | ((with_reducible apply ldro); (· (first | with_reducible assumption | (simp (disch := omega) only [go_sem, *]; try rfl))); (· (first | with_reducible assumption | rfl))) | ((with_reducible apply st1); (· (first | with_reducible assumption | (simp (disch := omega) only [go_sem, *]; try rfl))); (· simp); (· rfl)) | with_reducible refine ifT rfl ?_ | with_reducible refine ifF (not_not_intro rfl) ?_ | with_reducible refine ifT (by omega) ?_ | with_reducible refine ifF (by omega) ?_)
    refine joinI ?_
    repeat (first | refine To.go ?_ | with_reducible refine And.intro (by first | omega | exact ⟨rfl, rfl⟩) ?_ | ((with_reducible apply opt); (· (first | with_reducible assumption | rfl))) | ((with_reducible apply ldrw); (· (first | with_reducible assumption | (simp (disch := omega) only [go_sem, *]; try rfl))); (· (first | with_reducible assumption | rfl))) | ((with_reducible apply ldro); (· (first | with_reducible assumption | (simp (disch := omega) only [go_sem, *]; try rfl))); (· (first | with_reducible assumption | rfl))) | ((with_reducible apply st1); (· (first | with_reducible assumption | (simp (disch := omega) only [go_sem, *]; try rfl))); (· simp); (· rfl)) | with_reducible refine ifT rfl ?_ | with_reducible refine ifF (not_not_intro rfl) ?_ | with_reducible refine ifT (by omega) ?_ | with_reducible refine ifF (by omega) ?_)
    refine joinI ?_
    refine ifD (fun hlt => ?_) (fun hge => ?_)
    · rw [if_pos hlt] at hR
      refine callW_of (inflate_room (n := 1) (h2.bump 9) (by omega)) ?_
      rintro w σ3 ⟨rfl, s3⟩
      replace s3 := s3.ob
      have h3 := h2.keep (fun b hb => s3.get b (h2.lt b hb)) s3.next
      have g3 := g2.then s3
      unfold rRoom at hR
      by_cases hroom : most - out1.length < (1 : Nat)
      · rw [if_pos hroom] at hR ⊢
        repeat (first | refine To.go ?_ | with_reducible refine And.intro (by first | omega | exact ⟨rfl, rfl⟩) ?_ | ((with_reducible apply opt); (· (first | with_reducible assumption | rfl))) | ((with_reducible apply ldrw); (· (first | with_reducible assumption | (simp (disch := omega) only [go_sem, *]; try rfl))); (· (first | with_reducible assumption | rfl))) | ((with_reducible apply ldro); (· (first | with_reducible assumption | (simp (disch := omega) only [go_sem, *]; try rfl))); (· (first | with_reducible assumption | rfl))) | ((with_reducible apply st1); (· (first | with_reducible assumption | (simp (disch := omega) only [go_sem, *]; try rfl))); (· simp); (· rfl)) | with_reducible refine ifT rfl ?_ | with_reducible refine ifF (not_not_intro rfl) ?_ | with_reducible refine ifT (by omega) ?_ | with_reducible refine ifF (by omega) ?_)
        refine joinI ?_
        repeat (first | refine To.go ?_ | with_reducible refine And.intro (by first | omega | exact ⟨rfl, rfl⟩) ?_ | ((with_reducible apply opt); (· (first | with_reducible assumption | rfl))) | ((with_reducible apply ldrw); (· (first | with_reducible assumption | (simp (disch := omega) only [go_sem, *]; try rfl))); (· (first | with_reducible assumption | rfl))) | ((with_reducible apply ldro); (· (first | with_reducible assumption | (simp (disch := omega) only [go_sem, *]; try rfl))); (· (first | with_reducible assumption | rfl))) | ((with_reducible apply st1); (· (first | with_reducible assumption | (simp (disch := omega) only [go_sem, *]; try rfl))); (· simp); (· rfl)) | with_reducible refine ifT rfl ?_ | with_reducible refine ifF (not_not_intro rfl) ?_ | with_reducible refine ifT (by omega) ?_ | with_reducible refine ifF (by omega) ?_)
        unfold F_inflate_Inflate_j5 F_inflate_Inflate_j4
        repeat (first | refine To.go ?_ | with_reducible refine And.intro (by first | omega | exact ⟨rfl, rfl⟩) ?_ | ((with_reducible apply opt); (· (first | with_reducible assumption | rfl))) | ((with_reducible apply ldrw); (· (first | with_reducible assumption | (simp (disch := omega) only [go_sem, *]; try rfl))); (· (first | with_reducible assumption | rfl))) | ((with_reducible apply ldro); (· (first | with_reducible assumption | (simp (disch := omega) only [go_sem, *]; try rfl))); (· (first | with_reducible assumption | rfl))) | ((with_reducible apply st1); (· (first | with_reducible assumption | (simp (disch := omega) only [go_sem, *]; try rfl))); (· simp); (· rfl)) | with_reducible refine ifT rfl ?_ | with_reducible refine ifF (not_not_intro rfl) ?_ | with_reducible refine ifT (by omega) ?_ | with_reducible refine ifF (by omega) ?_)
        unfold F_inflate_Inflate_j3
        repeat (first | refine To.go ?_ | with_reducible refine And.intro (by first | omega | exact ⟨rfl, rfl⟩) ?_ | ((with_reducible apply opt); (· (first | with_reducible assumption | rfl))) | ((with_reducible apply ldrw); (· (first | with_reducible assumption | (simp (disch := omega) only [go_sem, *]; try rfl))); (· (first | with_reducible assumption | rfl))) | ((with_reducible apply ldro); (· (first | with_reducible assumption | (simp (disch := omega) only [go_sem, *]; try rfl))); (· (first | with_reducible assumption | rfl))) | ((with_reducible apply st1); (· (first | with_reducible assumption | (simp (disch := omega) only [go_sem, *]; try rfl))); (· simp); (· rfl)) | with_reducible refine ifT rfl ?_ | with_reducible refine ifF (not_not_intro rfl) ?_ | with_reducible refine ifT (by omega) ?_ | with_reducible refine ifF (by omega) ?_)
        exact herr 5 hR.symm _ _ ((g3.bump _).bump _)
      · rw [if_neg hroom] at hR ⊢
        rw [rBind_ok (a := ()) (q := q) rfl] at hR
        repeat (first | refine To.go ?_ | with_reducible refine And.intro (by first | omega | exact ⟨rfl, rfl⟩) ?_ | ((with_reducible apply opt); (· (first | with_reducible assumption | rfl))) | ((with_reducible apply ldrw); (· (first | with_reducible assumption | (simp (disch := omega) only [go_sem, *]; try rfl))); (· (first | with_reducible assumption | rfl))) | ((with_reducible apply ldro); (· (first | with_reducible assumption | (simp (disch := omega) only [go_sem, *]; try rfl))); (· (first | with_reducible assumption | rfl))) | ((with_reducible apply st1); (· (first | with_reducible assumption | (simp (disch := omega) only [go_sem, *]; try rfl))); (· simp); (· rfl)) | with_reducible refine ifT rfl ?_ | with_reducible refine ifF (not_not_intro rfl) ?_ | with_reducible refine ifT (by omega) ?_ | with_reducible refine ifF (by omega) ?_)
        refine joinI ?_
        repeat (first | refine To.go ?_ | with_reducible refine And.intro (by first | omega | exact ⟨rfl, rfl⟩) ?_ | ((with_reducible apply opt); (· (first | with_reducible assumption | rfl))) | ((with_reducible apply ldrw); (· (first | with_reducible assumption | (simp (disch := omega) only [go_sem, *]; try rfl))); (· (first | with_reducible assumption | rfl))) | ((with_reducible apply ldro); (· (first | with_reducible assumption | (simp (disch := omega) only [go_sem, *]; try rfl))); (· (first | with_reducible assumption | rfl))) | ((with_reducible apply st1); (· (first | with_reducible assumption | (simp (disch := omega) only [go_sem, *]; try rfl))); (· simp); (· rfl)) | with_reducible refine ifT rfl ?_ | with_reducible refine ifF (not_not_intro rfl) ?_ | with_reducible refine ifT (by omega) ?_ | with_reducible refine ifF (by omega) ?_)
        refine ldrw h3.gx (v := v1) rfl ?_
        refine To.go ?_
        rw [Int.emod_eq_of_lt (by omega) hlt]
        refine To.go ?_
        refine h3.push (bytes := [UInt8.ofNat c]) (m := 1) (by repeat (with_reducible first | assumption | exact Mem.Only.refl _ _ | exact Mem.Same.refl _ | refine Mem.Only.bump ?_ _ | refine Mem.Only.put ?_ (by simp) _ | refine Mem.Only.put ?_ (.inr (by first | omega | (simp only [Mem.next_bump, Mem.next_put]; omega))) _ | refine Mem.Same.bump ?_ _ | refine Mem.Same.put ?_ (by first | omega | (simp only [Mem.next_bump, Mem.next_put]; omega)) _)) (fun K hK => ?_) rfl ⟨by omega, by simp only [Mem.next_put, Mem.next_bump]; omega⟩ (.inr (by simp only [List.length_singleton]; omega)) ?_
        · refine src_new (Mem.get_put_self _ _ _) rfl rfl K ?_
          rw [bl_one_byte (by omega), Int.toNat_natCast]
          exact hK
        intro o5 v5 σ5 h5 g5 n5
        unfold F_inflate_Inflate_j5 F_inflate_Inflate_j4 F_inflate_Inflate_j3
        repeat (first | refine To.go ?_ | with_reducible refine And.intro (by first | omega | exact ⟨rfl, rfl⟩) ?_ | ((with_reducible apply opt); (· (first | with_reducible assumption | rfl))) | ((with_reducible apply ldrw); (· (first | with_reducible assumption | (simp (disch := omega) only [go_sem, *]; try rfl))); (· (first | with_reducible assumption | rfl))) | ((with_reducible apply ldro); (· (first | with_reducible assumption | (simp (disch := omega) only [go_sem, *]; try rfl))); (· (first | with_reducible assumption | rfl))) | ((with_reducible apply st1); (· (first | with_reducible assumption | (simp (disch := omega) only [go_sem, *]; try rfl))); (· simp); (· rfl)) | with_reducible refine ifT rfl ?_ | with_reducible refine ifF (not_not_intro rfl) ?_ | with_reducible refine ifT (by omega) ?_ | with_reducible refine ifF (by omega) ?_)
        exact again ⟨f, ⟨o5, _, q, v5, hR, by omega, (g3.trans g5).bump _, h5.bump _⟩, by omega⟩
    · rw [if_neg hge] at hR
      refine ifD (fun heq => ?_) (fun hne => ?_)
      · rw [if_pos heq] at hR
        exact hok _ _ hR.symm _ _ _ (g2.bump _) (h2.bump _)
      · rw [if_neg hne] at hR
        refine callW_of (inflate_match (c := c) (h2.bump 14) (by omega) (by omega) hD hDl (ht2'.keep fun _ _ _ => rfl) (by simp only [Mem.next_bump]; omega) fun b hb => ?_) ?_
        · exact hto21 b hb
        rintro w σ3 ⟨o3, g3, hw⟩
        replace g3 := g2.trans g3.ob
        clear e
        cases e : rMatch most D c out1 s q with
        | error z =>
          rw [e] at hw
          subst hw
          have hz := Fr.ne (.mtch _ _ _ _) h2.le e
          rw [rBind_er e] at hR
          unfold F_inflate_Inflate_j4
          repeat (first | refine To.go ?_ | with_reducible refine And.intro (by first | omega | exact ⟨rfl, rfl⟩) ?_ | ((with_reducible apply opt); (· (first | with_reducible assumption | rfl))) | ((with_reducible apply ldrw); (· (first | with_reducible assumption | (simp (disch := omega) only [go_sem, *]; try rfl))); (· (first | with_reducible assumption | rfl))) | ((with_reducible apply ldro); (· (first | with_reducible assumption | (simp (disch := omega) only [go_sem, *]; try rfl))); (· (first | with_reducible assumption | rfl))) | ((with_reducible apply st1); (· (first | with_reducible assumption | (simp (disch := omega) only [go_sem, *]; try rfl))); (· simp); (· rfl)) | with_reducible refine ifT rfl ?_ | with_reducible refine ifF (not_not_intro rfl) ?_ | with_reducible refine ifT (by omega) ?_ | with_reducible refine ifF (by omega) ?_)
          unfold F_inflate_Inflate_j3
          repeat (first | refine To.go ?_ | with_reducible refine And.intro (by first | omega | exact ⟨rfl, rfl⟩) ?_ | ((with_reducible apply opt); (· (first | with_reducible assumption | rfl))) | ((with_reducible apply ldrw); (· (first | with_reducible assumption | (simp (disch := omega) only [go_sem, *]; try rfl))); (· (first | with_reducible assumption | rfl))) | ((with_reducible apply ldro); (· (first | with_reducible assumption | (simp (disch := omega) only [go_sem, *]; try rfl))); (· (first | with_reducible assumption | rfl))) | ((with_reducible apply st1); (· (first | with_reducible assumption | (simp (disch := omega) only [go_sem, *]; try rfl))); (· simp); (· rfl)) | with_reducible refine ifT rfl ?_ | with_reducible refine ifF (not_not_intro rfl) ?_ | with_reducible refine ifT (by omega) ?_ | with_reducible refine ifF (by omega) ?_)
          exact herr z hR.symm _ _ (g3.bump _)
        | ok y =>
          obtain ⟨a, q2⟩ := y
          rw [e] at hw
          obtain ⟨rfl, v3, h3⟩ := hw
          have hq := Fr.le (.mtch _ _ _ _) h2.le e
          rw [rBind_ok e] at hR
          unfold F_inflate_Inflate_j4
          repeat (first | refine To.go ?_ | with_reducible refine And.intro (by first | omega | exact ⟨rfl, rfl⟩) ?_ | ((with_reducible apply opt); (· (first | with_reducible assumption | rfl))) | ((with_reducible apply ldrw); (· (first | with_reducible assumption | (simp (disch := omega) only [go_sem, *]; try rfl))); (· (first | with_reducible assumption | rfl))) | ((with_reducible apply ldro); (· (first | with_reducible assumption | (simp (disch := omega) only [go_sem, *]; try rfl))); (· (first | with_reducible assumption | rfl))) | ((with_reducible apply st1); (· (first | with_reducible assumption | (simp (disch := omega) only [go_sem, *]; try rfl))); (· simp); (· rfl)) | with_reducible refine ifT rfl ?_ | with_reducible refine ifF (not_not_intro rfl) ?_ | with_reducible refine ifT (by omega) ?_ | with_reducible refine ifF (by omega) ?_)
          unfold F_inflate_Inflate_j3
          repeat (first | refine To.go ?_ | with_reducible refine And.intro (by first | omega | exact ⟨rfl, rfl⟩) ?_ | ((with_reducible apply opt); (· (first | with_reducible assumption | rfl))) | ((with_reducible apply ldrw); (· (first | with_reducible assumption | (simp (disch := omega) only [go_sem, *]; try rfl))); (· (first | with_reducible assumption | rfl))) | ((with_reducible apply ldro); (· (first | with_reducible assumption | (simp (disch := omega) only [go_sem, *]; try rfl))); (· (first | with_reducible assumption | rfl))) | ((with_reducible apply st1); (· (first | with_reducible assumption | (simp (disch := omega) only [go_sem, *]; try rfl))); (· simp); (· rfl)) | with_reducible refine ifT rfl ?_ | with_reducible refine ifF (not_not_intro rfl) ?_ | with_reducible refine ifT (by omega) ?_ | with_reducible refine ifF (by omega) ?_)
          exact again ⟨f, ⟨o3, a, q2, v3, hR, by omega, g3.bump _, h3.bump _⟩, by omega⟩
end
end Go.Vit
