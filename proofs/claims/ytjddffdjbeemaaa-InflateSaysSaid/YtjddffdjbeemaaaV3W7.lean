/- The stream: a match is laid. -/
import Derived.Test.YtjddffdjbeemaaaV3W6
set_option linter.unusedVariables false
set_option linter.unusedSimpArgs false
set_option linter.unusedSimpArgs false
set_option maxRecDepth 20000
namespace Go.Vit
open Go.Proofs
section
variable {σ σ' : Mem} {o : List Nat} {x r p : Nat} {s : ByteArray} {most : Int} {out : List UInt8} {v : AV}
theorem TabB.only {lo hi t : Nat} {D : List Int} {o : List Nat} (ht : TabB lo hi D σ t) (h : Mem.Only o σ σ') (hhi : hi ≤ σ.next) (ho : ∀ b ∈ o, b < lo ∨ hi ≤ b) : TabB lo hi D σ' t :=
  ht.keep fun b h1 h2 => h.get b (by omega) fun hm => by have := ho b hm; omega
theorem bits_er3 {n q : Nat} {z : Int} (e : rBits n s q = .error z) : z = 3 := by
  unfold rBits at e
  split at e
  · injection e with e; exact e.symm
  · exact absurd e (by simp)
theorem bl_last {out : List UInt8} {i : Nat} (h : i < out.length) : (bl out)[i]? = some (.int .u8 ((out[i]?.getD 0).toNat : Nat)) := by
  rw [bl_get h, List.getElem?_eq_getElem h]; rfl
theorem inflate_match {lo hi t c : Nat} {D : List Int} (h : Smv σ o x r s p most out v) (hc : 257 ≤ c) (hc2 : c < 2 ^ 32) (hD : lens D) (hDl : D.length ≤ 2 ^ 20) (ht : TabB lo hi D σ t) (hhi : hi ≤ σ.next) (hto : ∀ b ∈ o, b < lo ∨ hi ≤ b) :
    ACalls PG n_inflate_stream_match [.ptr x 0, .int .i64 (c : Nat), .ptr t 0] σ fun w σ' => ∃ o', Grow o o' σ σ' ∧ match rMatch most D c out s p with
    | .ok (a, q) => w = .int .i64 0 ∧ Sm σ' o' x r s q most a
    | .error e => w = .int .i64 e := by
  refine ok_inflate_stream_match fun live => ?_
  unfold F_inflate_stream_match
  refine callW_of (inflate_length (h.bump 9) hc hc2) ?_
  rintro w σ1 ⟨g1, hw⟩
  replace g1 := g1.ob
  unfold rMatch
  cases e : rLen c s p with
  | error z =>
    rw [e] at hw
    obtain ⟨k, rfl⟩ := hw
    have hz := Fr.ne (.len c) h.le e
    rw [rBind_er e]
    repeat (first | refine To.go ?_ | with_reducible refine And.intro (by first | omega | exact ⟨rfl, rfl⟩) ?_ | ((with_reducible apply opt); (· (first | with_reducible assumption | rfl))) | ((with_reducible apply ldrw); (· (first | with_reducible assumption | (simp (disch := omega) only [go_sem, *]; try rfl))); (· (first | with_reducible assumption | rfl))) | ((with_reducible apply ldro); (· (first | with_reducible assumption | (simp (disch := omega) only [go_sem, *]; try rfl))); (· (first | with_reducible assumption | rfl))) | ((with_reducible apply st1); (· (first | with_reducible assumption | (simp (disch := omega) only [go_sem, *]; try rfl))); (· simp); (· rfl)) | with_reducible refine ifT rfl ?_ | with_reducible refine ifF (not_not_intro rfl) ?_ | with_reducible refine ifT (by omega) ?_ | with_reducible refine ifF (by omega) ?_)
    exact ⟨o, g1.bump _, rfl⟩
  | ok y =>
    obtain ⟨n, q⟩ := y
    rw [e] at hw
    obtain ⟨rfl, hn, h1⟩ := hw
    rw [rBind_ok e]
    clear e
    have n1 := g1.only.next
    have ht1 := ht.only g1.only hhi hto
    have hr : r < lo ∨ hi ≤ r := hto r (by rw [h.eqo]; simp)
    repeat (first | refine To.go ?_ | with_reducible refine And.intro (by first | omega | exact ⟨rfl, rfl⟩) ?_ | ((with_reducible apply opt); (· (first | with_reducible assumption | rfl))) | ((with_reducible apply ldrw); (· (first | with_reducible assumption | (simp (disch := omega) only [go_sem, *]; try rfl))); (· (first | with_reducible assumption | rfl))) | ((with_reducible apply ldro); (· (first | with_reducible assumption | (simp (disch := omega) only [go_sem, *]; try rfl))); (· (first | with_reducible assumption | rfl))) | ((with_reducible apply st1); (· (first | with_reducible assumption | (simp (disch := omega) only [go_sem, *]; try rfl))); (· simp); (· rfl)) | with_reducible refine ifT rfl ?_ | with_reducible refine ifF (not_not_intro rfl) ?_ | with_reducible refine ifT (by omega) ?_ | with_reducible refine ifF (by omega) ?_)
    refine ldrw h1.gx (v := .ptr r 0) rfl ?_
    refine callW_of (Smv.next (h1.bump 13) hD (ht1.keep fun _ _ _ => rfl) (by simp only [Mem.next_bump]; omega) hr) ?_
    rintro w σ2 ⟨g2, _, hw⟩
    replace g2 := g1.trans g2.ob
    have n2 := g2.only.next
    cases e : rNext D s q with
    | error z =>
      rw [e] at hw
      obtain ⟨k, rfl⟩ := hw
      have hz := Fr.ne (.next D) h1.le e
      rw [rBind_er e]
      repeat (first | refine To.go ?_ | with_reducible refine And.intro (by first | omega | exact ⟨rfl, rfl⟩) ?_ | ((with_reducible apply opt); (· (first | with_reducible assumption | rfl))) | ((with_reducible apply ldrw); (· (first | with_reducible assumption | (simp (disch := omega) only [go_sem, *]; try rfl))); (· (first | with_reducible assumption | rfl))) | ((with_reducible apply ldro); (· (first | with_reducible assumption | (simp (disch := omega) only [go_sem, *]; try rfl))); (· (first | with_reducible assumption | rfl))) | ((with_reducible apply st1); (· (first | with_reducible assumption | (simp (disch := omega) only [go_sem, *]; try rfl))); (· simp); (· rfl)) | with_reducible refine ifT rfl ?_ | with_reducible refine ifF (not_not_intro rfl) ?_ | with_reducible refine ifT (by omega) ?_ | with_reducible refine ifF (by omega) ?_)
      exact ⟨o, g2.bump _, rfl⟩
    | ok y =>
      obtain ⟨f, q2⟩ := y
      rw [e] at hw
      obtain ⟨rfl, h2⟩ := hw
      rw [rBind_ok e]
      obtain ⟨f, rfl, hf⟩ := next_lt e
      clear e
      rw [Int.toNat_natCast]
      repeat (first | refine To.go ?_ | with_reducible refine And.intro (by first | omega | exact ⟨rfl, rfl⟩) ?_ | ((with_reducible apply opt); (· (first | with_reducible assumption | rfl))) | ((with_reducible apply ldrw); (· (first | with_reducible assumption | (simp (disch := omega) only [go_sem, *]; try rfl))); (· (first | with_reducible assumption | rfl))) | ((with_reducible apply ldro); (· (first | with_reducible assumption | (simp (disch := omega) only [go_sem, *]; try rfl))); (· (first | with_reducible assumption | rfl))) | ((with_reducible apply st1); (· (first | with_reducible assumption | (simp (disch := omega) only [go_sem, *]; try rfl))); (· simp); (· rfl)) | with_reducible refine ifT rfl ?_ | with_reducible refine ifF (not_not_intro rfl) ?_ | with_reducible refine ifT (by omega) ?_ | with_reducible refine ifF (by omega) ?_)
      refine callW_of (inflate_distance (c := f) (h2.bump 10) (by omega)) ?_
      rintro w σ3 ⟨g3, hw⟩
      replace g3 := g2.trans g3.ob
      cases e : rDist f s q2 with
      | error z =>
        rw [e] at hw
        obtain ⟨k, rfl⟩ := hw
        have hz := Fr.ne (.dist f) h2.le e
        rw [rBind_er e]
        repeat (first | refine To.go ?_ | with_reducible refine And.intro (by first | omega | exact ⟨rfl, rfl⟩) ?_ | ((with_reducible apply opt); (· (first | with_reducible assumption | rfl))) | ((with_reducible apply ldrw); (· (first | with_reducible assumption | (simp (disch := omega) only [go_sem, *]; try rfl))); (· (first | with_reducible assumption | rfl))) | ((with_reducible apply ldro); (· (first | with_reducible assumption | (simp (disch := omega) only [go_sem, *]; try rfl))); (· (first | with_reducible assumption | rfl))) | ((with_reducible apply st1); (· (first | with_reducible assumption | (simp (disch := omega) only [go_sem, *]; try rfl))); (· simp); (· rfl)) | with_reducible refine ifT rfl ?_ | with_reducible refine ifF (not_not_intro rfl) ?_ | with_reducible refine ifT (by omega) ?_ | with_reducible refine ifF (by omega) ?_)
        exact ⟨o, g3.bump _, rfl⟩
      | ok y =>
        obtain ⟨d, q3⟩ := y
        rw [e] at hw
        obtain ⟨rfl, hd1, hd2, h3⟩ := hw
        rw [rBind_ok e]
        clear e
        repeat (first | refine To.go ?_ | with_reducible refine And.intro (by first | omega | exact ⟨rfl, rfl⟩) ?_ | ((with_reducible apply opt); (· (first | with_reducible assumption | rfl))) | ((with_reducible apply ldrw); (· (first | with_reducible assumption | (simp (disch := omega) only [go_sem, *]; try rfl))); (· (first | with_reducible assumption | rfl))) | ((with_reducible apply ldro); (· (first | with_reducible assumption | (simp (disch := omega) only [go_sem, *]; try rfl))); (· (first | with_reducible assumption | rfl))) | ((with_reducible apply st1); (· (first | with_reducible assumption | (simp (disch := omega) only [go_sem, *]; try rfl))); (· simp); (· rfl)) | with_reducible refine ifT rfl ?_ | with_reducible refine ifF (not_not_intro rfl) ?_ | with_reducible refine ifT (by omega) ?_ | with_reducible refine ifF (by omega) ?_)
        refine ldrw h3.gx (v := v) rfl ?_
        refine h3.own.rdO.len ?_
        refine ifD (fun hlt => ?_) (fun hge => ?_)
        · rw [if_pos (by omega)]
          exact ⟨o, g3.bump _, rfl⟩
        rw [if_neg (by omega)]
        refine callW_of (inflate_room (n := n) (h3.bump 15) (by omega)) ?_
        rintro w σ4 ⟨rfl, s4⟩
        replace s4 := s4.ob
        have h4 := h3.keep (fun b hb => s4.get b (h3.lt b hb)) s4.next
        have g4 := g3.then s4
        unfold rRoom
        by_cases hroom : most - out.length < n
        · rw [if_pos hroom, if_pos hroom]
          repeat (first | refine To.go ?_ | with_reducible refine And.intro (by first | omega | exact ⟨rfl, rfl⟩) ?_ | ((with_reducible apply opt); (· (first | with_reducible assumption | rfl))) | ((with_reducible apply ldrw); (· (first | with_reducible assumption | (simp (disch := omega) only [go_sem, *]; try rfl))); (· (first | with_reducible assumption | rfl))) | ((with_reducible apply ldro); (· (first | with_reducible assumption | (simp (disch := omega) only [go_sem, *]; try rfl))); (· (first | with_reducible assumption | rfl))) | ((with_reducible apply st1); (· (first | with_reducible assumption | (simp (disch := omega) only [go_sem, *]; try rfl))); (· simp); (· rfl)) | with_reducible refine ifT rfl ?_ | with_reducible refine ifF (not_not_intro rfl) ?_ | with_reducible refine ifT (by omega) ?_ | with_reducible refine ifF (by omega) ?_)
          exact ⟨o, g4.bump _, rfl⟩
        · rw [if_neg hroom, if_neg hroom]
          repeat (first | refine To.go ?_ | with_reducible refine And.intro (by first | omega | exact ⟨rfl, rfl⟩) ?_ | ((with_reducible apply opt); (· (first | with_reducible assumption | rfl))) | ((with_reducible apply ldrw); (· (first | with_reducible assumption | (simp (disch := omega) only [go_sem, *]; try rfl))); (· (first | with_reducible assumption | rfl))) | ((with_reducible apply ldro); (· (first | with_reducible assumption | (simp (disch := omega) only [go_sem, *]; try rfl))); (· (first | with_reducible assumption | rfl))) | ((with_reducible apply st1); (· (first | with_reducible assumption | (simp (disch := omega) only [go_sem, *]; try rfl))); (· simp); (· rfl)) | with_reducible refine ifT rfl ?_ | with_reducible refine ifF (not_not_intro rfl) ?_ | with_reducible refine ifT (by omega) ?_ | with_reducible refine ifF (by omega) ?_)
          have hms := h.ms
          have hdo : d ≤ out.length := by omega
          have hroom : (out.length : Int) + n ≤ most := by omega
          clear h1 h2 h3 g1 g2 g3 s4 ht1 n1 n2
          refine loop1 (fun (i : Nat) (y : Int) σ' => y = i ∧ i ≤ n ∧ ∃ o' v', Grow o o' σ σ' ∧ Smv σ' o' x r s q3 most (copyN out d i) v') (fun i => n - i) 0 ⟨rfl, by omega, o, v, g4.bump _, h4.bump _⟩ ?_
          clear g4 h4
          rintro i _ σ4 ⟨rfl, hi, o4, v4, g4, h4⟩
          unfold F_inflate_stream_match_l1
          refine ifD (fun hin => ?_) (fun hin => ?_)
          · have hclen := copyN_len out d i
            have hcs : copyN out d (i + 1) = copyN out d i ++ [(copyN out d i)[(copyN out d i).length - d]?.getD 0] := rfl
            obtain ⟨y, hy⟩ : ∃ y, copyN out d i = y := ⟨_, rfl⟩
            rw [hy] at h4 hclen hcs
            rw [hclen] at hcs
            have hlast := bl_last (out := y) (i := out.length + i - d) (by omega)
            obtain ⟨z, hz⟩ : ∃ z, y[out.length + i - d]?.getD 0 = z := ⟨_, rfl⟩
            rw [hz] at hcs hlast
            refine To.go ?_
            refine ldrw h4.gx (v := v4) rfl ?_
            refine To.go ?_
            refine ldrw h4.gx (v := v4) rfl ?_
            refine To.go ?_
            refine ldrw h4.gx (v := v4) rfl ?_
            refine h4.own.rdO.len ?_
            refine iW_of (by omega) ?_
            rw [hclen, show (((out.length + i : Nat) : Int) - (d : Int)) = ((out.length + i - d : Nat) : Int) from by omega]
            obtain ⟨u, rfl, hu, _⟩ := h4.own.sl (by omega)
            repeat (first | refine To.go ?_ | with_reducible refine And.intro (by first | omega | exact ⟨rfl, rfl⟩) ?_ | ((with_reducible apply opt); (· (first | with_reducible assumption | rfl))) | ((with_reducible apply ldrw); (· (first | with_reducible assumption | (simp (disch := omega) only [go_sem, *]; try rfl))); (· (first | with_reducible assumption | rfl))) | ((with_reducible apply ldro); (· (first | with_reducible assumption | (simp (disch := omega) only [go_sem, *]; try rfl))); (· (first | with_reducible assumption | rfl))) | ((with_reducible apply st1); (· (first | with_reducible assumption | (simp (disch := omega) only [go_sem, *]; try rfl))); (· simp); (· rfl)) | with_reducible refine ifT rfl ?_ | with_reducible refine ifF (not_not_intro rfl) ?_ | with_reducible refine ifT (by omega) ?_ | with_reducible refine ifF (by omega) ?_)
            refine h4.push (bytes := [z]) (m := 1) (by repeat (with_reducible first | assumption | exact Mem.Only.refl _ _ | exact Mem.Same.refl _ | refine Mem.Only.bump ?_ _ | refine Mem.Only.put ?_ (by simp) _ | refine Mem.Only.put ?_ (.inr (by first | omega | (simp only [Mem.next_bump, Mem.next_put]; omega))) _ | refine Mem.Same.bump ?_ _ | refine Mem.Same.put ?_ (by first | omega | (simp only [Mem.next_bump, Mem.next_put]; omega)) _)) (fun K hK => ?_) rfl ⟨by omega, by simp only [Mem.next_put, Mem.next_bump]; omega⟩ (.inr (by simp only [List.length_singleton]; omega)) ?_
            · exact src_new (Mem.get_put_self _ _ _) rfl rfl K hK
            intro o5 v5 σ5 h5 g5 n5
            refine iW_of (by omega) ?_
            refine again ⟨i + 1, ⟨by omega, by omega, o5, v5, (g4.trans g5).bump _, ?_⟩, by omega⟩
            rw [hcs]; exact h5.bump _
          · obtain rfl : i = n := by omega
            exact ⟨o4, g4.bump _, rfl, v4, h4.bump _⟩
end
end Go.Vit
