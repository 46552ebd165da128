/- The stream: the lengths that a dynamic block tells. -/
import Derived.Test.YtjddffdjbeemaaaV3W5
set_option linter.unusedVariables false
set_option linter.unusedSimpArgs false
set_option linter.unusedSimpArgs false
set_option maxRecDepth 20000
namespace Go.Vit
open Go.Proofs
section
variable {σ σ' : Mem} {o : List Nat} {x r p : Nat} {s : ByteArray} {most : Int} {out : List UInt8} {v : AV}
def cutE (k : Nat) : Except Int (List Int × Nat) → Except Int ((List Int × List Int) × Nat)
  | .ok (l, q) => .ok ((l.take k, l.drop k), q)
  | .error e => .error e
theorem inflate_dynamic (h : Smv σ o x r s p most out v) : ACalls PG n_inflate_stream_dynamic [.ptr x 0] σ fun w σ' => Grow o o σ σ' ∧ match rDyn s p with
    | .ok (y, q) => ∃ a b, w = .tup [a, b, .int .i64 0] ∧ RdO 1 σ' a (ic y.1) y.1.length ∧ RdO 1 σ' b (ic y.2) y.2.length ∧ (∀ z ∈ blkOf a ++ blkOf b, σ.next ≤ z ∧ z < σ'.next) ∧ y.1.length ≤ 2 ^ 20 ∧ y.2.length ≤ 2 ^ 20 ∧ Smv σ' o x r s q most out v
    | .error e => ∃ a b, w = .tup [a, b, .int .i64 e] := by
  refine ok_inflate_stream_dynamic fun live => ?_
  unfold F_inflate_stream_dynamic
  obtain ⟨lb, hlb⟩ : ∃ b, σ.next + 4 = b := ⟨_, rfl⟩
  rw [hlb]
  refine To.go ?_
  obtain ⟨σ1, h1⟩ : ∃ σ1, σ1 = (σ.bump 11).put lb (some (.rw [.int .i64 5, .int .i64 5, .int .i64 4])) := ⟨_, rfl⟩
  rw [← h1]
  have s1 : σ.Same σ1 := by rw [h1]; repeat (with_reducible first | assumption | exact Mem.Only.refl _ _ | exact Mem.Same.refl _ | refine Mem.Only.bump ?_ _ | refine Mem.Only.put ?_ (by simp) _ | refine Mem.Only.put ?_ (.inr (by first | omega | (simp only [Mem.next_bump, Mem.next_put]; omega))) _ | refine Mem.Same.bump ?_ _ | refine Mem.Same.put ?_ (by first | omega | (simp only [Mem.next_bump, Mem.next_put]; omega)) _)
  have n1 : σ1.next = σ.next + 11 := by rw [h1]; rfl
  have e1 : σ1.get lb = some (.rw (ic ([5, 5, 4].map fun (n : Nat) => (n : Int)))) := by rw [h1, gS']; rfl
  clear h1
  have ho := h.lt
  have hs1 := h.keep (fun b hb => s1.get b (ho b hb)) s1.next
  refine callW_of (inflate_several (ws := [5, 5, 4]) hs1 (.mk (b := lb) rfl ⟨_, e1, rfl⟩ rfl) (fun b hb => ?_) (by decide) (by decide)) ?_
  · simp [blkOf] at hb; subst hb
    exact ⟨fun hm => by have := ho b hm; omega, by omega⟩
  rintro w σ2 ⟨g2, hw⟩
  have o12 := g2.only
  have n2 := o12.next
  have o2 : Mem.Only o σ σ2 := ⟨by omega, fun b hb hn => (o12.get b (by omega) hn).trans (s1.get b hb)⟩
  have gr2 : Grow o o σ σ2 := ⟨o2, fun b hb => .inl hb, g2.lt⟩
  unfold rDyn
  cases e : rSev [5, 5, 4] [] s p with
  | error z =>
    rw [e] at hw
    obtain ⟨c, rfl⟩ := hw
    have hz := Fr.ne (.sev _ _) h.le e
    rw [rBind_er e]
    repeat (first | refine To.go ?_ | with_reducible refine And.intro (by first | omega | exact ⟨rfl, rfl⟩) ?_ | ((with_reducible apply opt); (· (first | with_reducible assumption | rfl))) | ((with_reducible apply ldrw); (· (first | with_reducible assumption | (simp (disch := omega) only [go_sem, *]; try rfl))); (· (first | with_reducible assumption | rfl))) | ((with_reducible apply ldro); (· (first | with_reducible assumption | (simp (disch := omega) only [go_sem, *]; try rfl))); (· (first | with_reducible assumption | rfl))) | ((with_reducible apply st1); (· (first | with_reducible assumption | (simp (disch := omega) only [go_sem, *]; try rfl))); (· simp); (· rfl)) | with_reducible refine ifT rfl ?_ | with_reducible refine ifF (not_not_intro rfl) ?_ | with_reducible refine ifT (by omega) ?_ | with_reducible refine ifF (by omega) ?_)
    exact ⟨gr2.bump _, _, _, rfl⟩
  | ok y =>
    obtain ⟨hd, q⟩ := y
    rw [e] at hw
    obtain ⟨c, rfl, hc, hcb, h2⟩ := hw
    rw [rBind_ok e]
    obtain ⟨vs, hvs, hvl, hvb⟩ := sev_get _ _ e
    match vs, hvl with
    | [a0, a1, a2], _ =>
    have b0 : a0 < 32 := hvb 0 (by decide) (by simp)
    have b1 : a1 < 32 := hvb 1 (by decide) (by simp)
    have b2 : a2 < 16 := hvb 2 (by decide) (by simp)
    obtain rfl : hd = [(a0 : Int), (a1 : Int), (a2 : Int)] := by rw [hvs]; rfl
    clear hvs hvb hvl e
    have d0 : (([(a0 : Int), (a1 : Int), (a2 : Int)].getD 0 0).toNat) = a0 := by simp
    have d1 : (([(a0 : Int), (a1 : Int), (a2 : Int)].getD 1 0).toNat) = a1 := by simp
    have d2 : (([(a0 : Int), (a1 : Int), (a2 : Int)].getD 2 0).toNat) = a2 := by simp
    rw [d0, d1, d2]
    clear d0 d1 d2
    obtain ⟨bb, bz, bc, rfl, hg0⟩ := hc.at (i := 0) (by simp)
    obtain ⟨bb, bz, bc, hq, hg1⟩ := hc.at (i := 1) (by simp)
    injection hq with q1 q2 q3 q4
    subst q1 q2 q4
    obtain ⟨bb, bz, bc, hq, hg2⟩ := hc.at (i := 2) (by simp)
    injection hq with q1 q2 q3 q4
    subst q1 q2 q4
    simp only [List.getElem_cons_zero, List.getElem_cons_succ, List.length_cons, List.length_nil] at hg0 hg1 hg2
    repeat (first | refine To.go ?_ | with_reducible refine And.intro (by first | omega | exact ⟨rfl, rfl⟩) ?_ | ((with_reducible apply opt); (· (first | with_reducible assumption | rfl))) | ((with_reducible apply ldrw); (· (first | with_reducible assumption | (simp (disch := omega) only [go_sem, *]; try rfl))); (· (first | with_reducible assumption | rfl))) | ((with_reducible apply ldro); (· (first | with_reducible assumption | (simp (disch := omega) only [go_sem, *]; try rfl))); (· (first | with_reducible assumption | rfl))) | ((with_reducible apply st1); (· (first | with_reducible assumption | (simp (disch := omega) only [go_sem, *]; try rfl))); (· simp); (· rfl)) | with_reducible refine ifT rfl ?_ | with_reducible refine ifF (not_not_intro rfl) ?_ | with_reducible refine ifT (by omega) ?_ | with_reducible refine ifF (by omega) ?_)
    have rd0 : ∀ {K : Int → Prop} (n : Nat), K a0 → ldI (σ2.bump n) (.ptr bb bz) K := fun n hk => by
      refine To.go ?_
      exact hg0 n (by refine To.go ?_; exact hk)
    have rd1 : ∀ {K : Int → Prop} (n : Nat), K a1 → ldI (σ2.bump n) (.ptr bb (bz + 1)) K := fun n hk => by
      refine To.go ?_
      exact hg1 n (by refine To.go ?_; exact hk)
    have rd2 : ∀ {K : Int → Prop} (n : Nat), K a2 → ldI (σ2.bump n) (.ptr bb (bz + 2)) K := fun n hk => by
      refine To.go ?_
      exact hg2 n (by refine To.go ?_; exact hk)
    clear hg0 hg1 hg2 q3 hc
    refine And.intro (by simp) ?_
    refine rd0 _ ?_
    refine iW_of (by omega) ?_
    refine To.go ?_
    refine And.intro (by simp) ?_
    refine rd0 _ ?_
    refine iW_of (by omega) ?_
    refine To.go ?_
    refine And.intro (by simp) ?_
    refine rd1 _ ?_
    refine iW_of (by omega) ?_
    refine iW_of (by omega) ?_
    refine To.go ?_
    refine And.intro (by simp) ?_
    refine rd2 _ ?_
    refine iW_of (by omega) ?_
    clear rd0 rd1 rd2
    obtain ⟨all, hall⟩ : ∃ all, a0 + 257 + a1 + 1 = all := ⟨_, rfl⟩
    rw [show ((a0 : Int) + 257 + a1 + 1) = (all : Nat) from by omega, show ((a2 : Int) + 4) = ((a2 + 4 : Nat) : Int) from by omega]
    refine callW_of (inflate_small (told := a2 + 4) (h2.bump 28) (by omega)) ?_
    rintro w σ3 ⟨g3', hw⟩
    have n3 := g3'.only.next
    simp only [Mem.next_bump] at n3
    have gr3 := gr2.trans g3'.ob
    clear g3' g2 o12 gr2 e1 s1 hs1
    unfold rDynT
    cases e : rSmall (ordr.take (a2 + 4)) (List.replicate 19 0) s q with
    | error z =>
      rw [e] at hw
      obtain ⟨c, rfl⟩ := hw
      have hz := Fr.ne (.small _ _) h2.le e
      rw [rBind_er e]
      repeat (first | refine To.go ?_ | with_reducible refine And.intro (by first | omega | exact ⟨rfl, rfl⟩) ?_ | ((with_reducible apply opt); (· (first | with_reducible assumption | rfl))) | ((with_reducible apply ldrw); (· (first | with_reducible assumption | (simp (disch := omega) only [go_sem, *]; try rfl))); (· (first | with_reducible assumption | rfl))) | ((with_reducible apply ldro); (· (first | with_reducible assumption | (simp (disch := omega) only [go_sem, *]; try rfl))); (· (first | with_reducible assumption | rfl))) | ((with_reducible apply st1); (· (first | with_reducible assumption | (simp (disch := omega) only [go_sem, *]; try rfl))); (· simp); (· rfl)) | with_reducible refine ifT rfl ?_ | with_reducible refine ifF (not_not_intro rfl) ?_ | with_reducible refine ifT (by omega) ?_ | with_reducible refine ifF (by omega) ?_)
      exact ⟨gr3.bump _, _, _, rfl⟩
    | ok y =>
      obtain ⟨sm, q2⟩ := y
      rw [e] at hw
      obtain ⟨hbad, hgood, h3⟩ := hw
      rw [rBind_ok e]
      clear e
      by_cases hck : chk sm ≠ 0
      · obtain ⟨c, rfl⟩ := hbad hck
        rw [rBind_er (e := chk sm) (by unfold rTable; rw [if_pos hck]; rfl)]
        repeat (first | refine To.go ?_ | with_reducible refine And.intro (by first | omega | exact ⟨rfl, rfl⟩) ?_ | ((with_reducible apply opt); (· (first | with_reducible assumption | rfl))) | ((with_reducible apply ldrw); (· (first | with_reducible assumption | (simp (disch := omega) only [go_sem, *]; try rfl))); (· (first | with_reducible assumption | rfl))) | ((with_reducible apply ldro); (· (first | with_reducible assumption | (simp (disch := omega) only [go_sem, *]; try rfl))); (· (first | with_reducible assumption | rfl))) | ((with_reducible apply st1); (· (first | with_reducible assumption | (simp (disch := omega) only [go_sem, *]; try rfl))); (· simp); (· rfl)) | with_reducible refine ifT rfl ?_ | with_reducible refine ifF (not_not_intro rfl) ?_ | with_reducible refine ifT (by omega) ?_ | with_reducible refine ifF (by omega) ?_)
        exact ⟨gr3.bump _, _, _, rfl⟩
      replace hck : chk sm = 0 := by simpa using hck
      obtain ⟨hL, h19, t, lo, rfl, ht, hlo⟩ := hgood hck
      rw [rBind_ok (a := ()) (q := q2) (by unfold rTable; rw [if_neg (by simpa using hck)]; rfl)]
      repeat (first | refine To.go ?_ | with_reducible refine And.intro (by first | omega | exact ⟨rfl, rfl⟩) ?_ | ((with_reducible apply opt); (· (first | with_reducible assumption | rfl))) | ((with_reducible apply ldrw); (· (first | with_reducible assumption | (simp (disch := omega) only [go_sem, *]; try rfl))); (· (first | with_reducible assumption | rfl))) | ((with_reducible apply ldro); (· (first | with_reducible assumption | (simp (disch := omega) only [go_sem, *]; try rfl))); (· (first | with_reducible assumption | rfl))) | ((with_reducible apply st1); (· (first | with_reducible assumption | (simp (disch := omega) only [go_sem, *]; try rfl))); (· simp); (· rfl)) | with_reducible refine ifT rfl ?_ | with_reducible refine ifF (not_not_intro rfl) ?_ | with_reducible refine ifT (by omega) ?_ | with_reducible refine ifF (by omega) ?_)
      obtain ⟨k, hk⟩ : ∃ k, a0 + 257 = k := ⟨_, rfl⟩
      rw [show a0 + 257 + a1 + 2 = all + 1 from by omega, hall, hk, show ((a0 : Int) + 257) = (k : Nat) from by omega]
      have hka : k ≤ all := by omega
      have hall2 : all ≤ 400 := by omega
      have hk1 : 1 ≤ k := by omega
      clear hbad hgood hcb b0 b1 b2 hall hk q3 o2
      simp only [Mem.next_bump] at hlo
      obtain ⟨D, hD⟩ : ∃ D, rLens sm all (all + 1) [] s q2 = D := ⟨_, rfl⟩
      obtain ⟨R, hR⟩ : ∃ R : Except Int ((List Int × List Int) × Nat), cutE k D = R := ⟨_, rfl⟩
      have hR' : rBind (rLens sm all (all + 1) []) (fun l => rPure (List.take k l, List.drop k l)) s q2 = R := by
        unfold rBind
        rw [hD, ← hR]
        cases D with
        | error z => rfl
        | ok y => rfl
      rw [hR']
      clear hR'
      refine loop1 (fun (f : Nat) (u : AV) σ' => ∃ l q, rLens sm all f l s q = D ∧ all < f + l.length ∧ l.length ≤ all ∧ Own 1 σ3 σ' u (ic l) l.length ∧ Smv σ' o x r s q most out v ∧ Mem.Only o σ3 σ') (fun f => f) (all + 1) ⟨[], q2, hD, by simp, by simp, Own.nil 1 _ _, h3.bump _, ⟨by simp only [Mem.next_bump]; omega, fun _ _ _ => rfl⟩⟩ ?_
      clear hD
      rintro f u σ4 ⟨l, q3, hd, hf, hl, own4, h4, o4⟩
      unfold F_inflate_stream_dynamic_l1
      have n4 := o4.next
      have gr4 : Grow o o σ σ4 := gr3.trans ⟨o4, fun b hb => .inl hb, h4.lt⟩
      have own4l := own4.1.rdO
      refine own4l.len ?_
      refine ifD (fun hlt => ?_) (fun hge => ?_)
      · have hlt : l.length < all := by omega
        obtain ⟨f, rfl⟩ : ∃ f', f = f' + 1 := ⟨f - 1, by omega⟩
        unfold rLens at hd
        rw [if_pos hlt] at hd
        refine callW_of (inflate_run (h4.bump 15) hL h19 (ht.keep (σ' := σ4.bump 15) fun b hb hb' => ?_) (by simp only [Mem.next_bump]; omega) ?_ (own4l.keep fun _ _ => rfl) (fun b hb => ⟨by have := own4.2 b hb; simp only [Mem.next_bump]; omega, fun hm => by have := own4.2 b hb; have := h3.lt b hm; omega⟩) (by omega)) ?_
        · rw [Mem.get_bump]; exact o4.get b hb' fun hm => by have := ho b hm; omega
        · have := ho r (by rw [h.eqo]; simp); omega
        rintro w σ5 ⟨g5', hw⟩
        have n5 := g5'.only.next
        simp only [Mem.next_bump] at n5
        replace g5' := g5'.ob
        have gr5 := gr4.trans g5'
        have own5 := own4.only g5'.only fun b hb hm => by have := own4.2 b hb; have := h3.lt b hm; omega
        have o5 : Mem.Only o σ3 σ5 := o4.trans g5'.only
        cases e : rRun sm l s q3 with
        | error z =>
          rw [e] at hw
          obtain ⟨c, n, rfl⟩ := hw
          have hz := Fr.ne (.run _ _) h4.le e
          rw [rBind_er e] at hd
          subst hd
          subst hR
          repeat (first | refine To.go ?_ | with_reducible refine And.intro (by first | omega | exact ⟨rfl, rfl⟩) ?_ | ((with_reducible apply opt); (· (first | with_reducible assumption | rfl))) | ((with_reducible apply ldrw); (· (first | with_reducible assumption | (simp (disch := omega) only [go_sem, *]; try rfl))); (· (first | with_reducible assumption | rfl))) | ((with_reducible apply ldro); (· (first | with_reducible assumption | (simp (disch := omega) only [go_sem, *]; try rfl))); (· (first | with_reducible assumption | rfl))) | ((with_reducible apply st1); (· (first | with_reducible assumption | (simp (disch := omega) only [go_sem, *]; try rfl))); (· simp); (· rfl)) | with_reducible refine ifT rfl ?_ | with_reducible refine ifF (not_not_intro rfl) ?_ | with_reducible refine ifT (by omega) ?_ | with_reducible refine ifF (by omega) ?_)
          refine joinI ?_
          unfold F_inflate_stream_dynamic_j2
          repeat (first | refine To.go ?_ | with_reducible refine And.intro (by first | omega | exact ⟨rfl, rfl⟩) ?_ | ((with_reducible apply opt); (· (first | with_reducible assumption | rfl))) | ((with_reducible apply ldrw); (· (first | with_reducible assumption | (simp (disch := omega) only [go_sem, *]; try rfl))); (· (first | with_reducible assumption | rfl))) | ((with_reducible apply ldro); (· (first | with_reducible assumption | (simp (disch := omega) only [go_sem, *]; try rfl))); (· (first | with_reducible assumption | rfl))) | ((with_reducible apply st1); (· (first | with_reducible assumption | (simp (disch := omega) only [go_sem, *]; try rfl))); (· simp); (· rfl)) | with_reducible refine ifT rfl ?_ | with_reducible refine ifF (not_not_intro rfl) ?_ | with_reducible refine ifT (by omega) ?_ | with_reducible refine ifF (by omega) ?_)
          exact ⟨(gr5.bump _).bump _, _, _, rfl⟩
        | ok y =>
          obtain ⟨⟨c, n⟩, q4⟩ := y
          rw [e] at hw
          obtain ⟨rfl, hn1, hn2, h5⟩ := hw
          dsimp only at hn1 hn2
          rw [rBind_ok e] at hd
          dsimp only at hd
          have own5l := own5.1.rdO
          repeat (first | refine To.go ?_ | with_reducible refine And.intro (by first | omega | exact ⟨rfl, rfl⟩) ?_ | ((with_reducible apply opt); (· (first | with_reducible assumption | rfl))) | ((with_reducible apply ldrw); (· (first | with_reducible assumption | (simp (disch := omega) only [go_sem, *]; try rfl))); (· (first | with_reducible assumption | rfl))) | ((with_reducible apply ldro); (· (first | with_reducible assumption | (simp (disch := omega) only [go_sem, *]; try rfl))); (· (first | with_reducible assumption | rfl))) | ((with_reducible apply st1); (· (first | with_reducible assumption | (simp (disch := omega) only [go_sem, *]; try rfl))); (· simp); (· rfl)) | with_reducible refine ifT rfl ?_ | with_reducible refine ifF (not_not_intro rfl) ?_ | with_reducible refine ifT (by omega) ?_ | with_reducible refine ifF (by omega) ?_)
          refine own5l.len ?_
          refine iW_of (by omega) ?_
          refine joinI ?_
          refine ifD (fun hgt => ?_) (fun hle => ?_)
          · rw [if_pos (by omega)] at hd
            unfold rFail at hd
            subst hd
            subst hR
            unfold F_inflate_stream_dynamic_j1
            repeat (first | refine To.go ?_ | with_reducible refine And.intro (by first | omega | exact ⟨rfl, rfl⟩) ?_ | ((with_reducible apply opt); (· (first | with_reducible assumption | rfl))) | ((with_reducible apply ldrw); (· (first | with_reducible assumption | (simp (disch := omega) only [go_sem, *]; try rfl))); (· (first | with_reducible assumption | rfl))) | ((with_reducible apply ldro); (· (first | with_reducible assumption | (simp (disch := omega) only [go_sem, *]; try rfl))); (· (first | with_reducible assumption | rfl))) | ((with_reducible apply st1); (· (first | with_reducible assumption | (simp (disch := omega) only [go_sem, *]; try rfl))); (· simp); (· rfl)) | with_reducible refine ifT rfl ?_ | with_reducible refine ifF (not_not_intro rfl) ?_ | with_reducible refine ifT (by omega) ?_ | with_reducible refine ifF (by omega) ?_)
            exact ⟨(gr5.bump _).bump _, _, _, rfl⟩
          · rw [if_neg (by omega)] at hd
            unfold F_inflate_stream_dynamic_j1
            repeat (first | refine To.go ?_ | with_reducible refine And.intro (by first | omega | exact ⟨rfl, rfl⟩) ?_ | ((with_reducible apply opt); (· (first | with_reducible assumption | rfl))) | ((with_reducible apply ldrw); (· (first | with_reducible assumption | (simp (disch := omega) only [go_sem, *]; try rfl))); (· (first | with_reducible assumption | rfl))) | ((with_reducible apply ldro); (· (first | with_reducible assumption | (simp (disch := omega) only [go_sem, *]; try rfl))); (· (first | with_reducible assumption | rfl))) | ((with_reducible apply st1); (· (first | with_reducible assumption | (simp (disch := omega) only [go_sem, *]; try rfl))); (· simp); (· rfl)) | with_reducible refine ifT rfl ?_ | with_reducible refine ifF (not_not_intro rfl) ?_ | with_reducible refine ifT (by omega) ?_ | with_reducible refine ifF (by omega) ?_)
            refine loop2 (fun (i : Nat) (u : AV) (y : Int) σ' => y = i ∧ i ≤ n ∧ Own 1 σ3 σ' u (ic (l ++ List.replicate i c)) (l.length + i) ∧ Smv σ' o x r s q4 most out v ∧ Mem.Only o σ3 σ') (fun i => n - i) 0 ⟨rfl, by omega, ?_, (h5.bump _).bump _, (o5.bump _).bump _⟩ ?_
            · rw [List.replicate_zero, List.append_nil, Nat.add_zero]
              exact ⟨own5.1.keep fun _ _ => rfl, fun b hb => by have := own5.2 b hb; simp only [Mem.next_bump]; omega⟩
            rintro i u _ σ6 ⟨rfl, hi, own6, h6, o6⟩
            unfold F_inflate_stream_dynamic_l2
            refine ifD (fun hlt => ?_) (fun hge => ?_)
            · repeat (first | refine To.go ?_ | with_reducible refine And.intro (by first | omega | exact ⟨rfl, rfl⟩) ?_ | ((with_reducible apply opt); (· (first | with_reducible assumption | rfl))) | ((with_reducible apply ldrw); (· (first | with_reducible assumption | (simp (disch := omega) only [go_sem, *]; try rfl))); (· (first | with_reducible assumption | rfl))) | ((with_reducible apply ldro); (· (first | with_reducible assumption | (simp (disch := omega) only [go_sem, *]; try rfl))); (· (first | with_reducible assumption | rfl))) | ((with_reducible apply st1); (· (first | with_reducible assumption | (simp (disch := omega) only [go_sem, *]; try rfl))); (· simp); (· rfl)) | with_reducible refine ifT rfl ?_ | with_reducible refine ifF (not_not_intro rfl) ?_ | with_reducible refine ifT (by omega) ?_ | with_reducible refine ifF (by omega) ?_)
              refine own6.pushO (os := o) (m := 1) (c := ic [c]) o6 rfl (by omega) (by omega) (by omega) rfl rfl (ic_one _) (by omega) ?_ (by simp only [Mem.next_put, Mem.next_bump]; omega)
              intro u' σ7 own7 o7 hn7 o67 hb7
              rw [← ic_append, List.append_assoc, ← List.replicate_succ'] at own7
              refine iW_of (by omega) ?_
              have n7 := o7.next
              refine again ⟨i + 1, ⟨by omega, by omega, ⟨own7.1.keep fun _ _ => rfl, fun b hb => by have := own7.2 b hb; simp only [Mem.next_bump]; omega⟩, h6.keep (fun b hb => ?_) ?_, o7.bump _⟩, by omega⟩
              · rw [Mem.get_bump, o67.get b (h6.lt b hb) fun hm => by have := own6.2 b hm; have := h3.lt b hb; omega]
              · have := o67.next
                simp only [Mem.next_bump]; omega
            · obtain rfl : i = n := by omega
              refine again ⟨f, ⟨l ++ List.replicate i c, q4, hd, by simp; omega, by simp; omega, ⟨?_, fun b hb => by have := own6.2 b hb; simp only [Mem.next_bump]; omega⟩, h6.bump _, o6.bump _⟩, by omega⟩
              rw [List.length_append, List.length_replicate]
              exact own6.1.keep fun _ _ => rfl
      · obtain ⟨f, rfl⟩ : ∃ f', f = f' + 1 := ⟨f - 1, by omega⟩
        unfold rLens at hd
        rw [if_neg (by omega)] at hd
        unfold rPure at hd
        subst hd
        subst hR
        have hlk : l.length = all := by omega
        rcases own4.1 with ⟨_, h0, _⟩ | ⟨b, rfl, h1, h2'⟩
        · omega
        refine And.intro ⟨rfl, Int.le_refl _, show (0 : Int) ≤ (k : Nat) by omega, show ((k : Nat) : Int) ≤ ((l.length : Nat) : Int) by omega⟩ ?_
        refine And.intro ⟨rfl, show (0 : Int) ≤ (k : Nat) by omega, show ((k : Nat) : Int) ≤ ((l.length : Nat) : Int) by omega, Int.le_refl _⟩ ?_
        refine ⟨gr4.bump _, _, _, rfl, ?_, ?_, ?_, ?_, ?_, h4.bump _⟩
        · dsimp only [orD, cutE]
          rw [List.length_take, Nat.min_eq_left (by omega), Int.toNat_natCast]
          show RdO 1 (σ4.bump 13) (.slice b 0 k _) _ _
          exact RdO.take (own4l.keep fun _ _ => rfl) (by omega)
        · dsimp only [orD, cutE]
          rw [List.length_drop, Int.toNat_natCast, Int.toNat_natCast, Nat.mul_one, Nat.zero_add]
          exact RdO.drop (own4l.keep fun _ _ => rfl) (by omega)
        · intro z hz
          have hz : z = b := by simpa [blkOf] using hz
          subst hz
          have := own4.2 z (by simp [blkOf])
          have := gr3.only.next
          simp only [Mem.next_bump]
          omega
        · show (l.take k).length ≤ _
          rw [List.length_take]; omega
        · show (l.drop k).length ≤ _
          rw [List.length_drop]; omega
end
end Go.Vit
