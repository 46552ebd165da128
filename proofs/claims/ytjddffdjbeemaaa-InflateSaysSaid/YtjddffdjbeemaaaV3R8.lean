/- The document's blocks of symbols: a match. -/
import Derived.Test.YtjddffdjbeemaaaV3R7
set_option linter.unusedVariables false
set_option linter.unusedSimpArgs false
set_option linter.unusedSimpArgs false
set_option maxRecDepth 20000
namespace Go.Vit
open Go.Proofs
section
variable {σ σ' : Mem} {o : List Nat} {x r p q : Nat} {s : ByteArray} {most e : Int} {out : List UInt8} {v : AV} {β : Type} {D : Except Int (β × Nat)} {m : Rd β}
theorem rbits_al {n : Nat} (hn : n ≤ 24) (h : Rmv σ o x r s q most out v 0) : ACalls PG n_ref03_inflater_bits [.ptr x 0, .int .i64 (n : Nat)] σ fun w σ' => ∃ a : Nat, w = .int .i64 (a : Nat) ∧ a < 2 ^ n ∧ Grow o o σ σ' ∧ match rBits n s q with
    | .ok (a', q') => a' = a ∧ Rmv σ' o x r s q' most out v 0
    | .error z => z ≠ 0 ∧ ∃ q', Rmv σ' o x r s q' most out v z := by
  refine (rbits (n := n) (k := rPure) (D := rBind (rBits n) rPure s q) hn (.inl ⟨q, rfl, h⟩)).mono ?_
  rintro w σ' ⟨a, rfl, ha, g, h'⟩
  refine ⟨a, rfl, ha, g, ?_⟩
  have hid : rBind (rBits n) rPure s q = rBits n s q := by
    unfold rBind
    cases rBits n s q with
    | error z => rfl
    | ok y => rfl
  rw [hid] at h'
  rcases h' with ⟨q', h1, h2⟩ | ⟨z, q', hz, h1, h2⟩
  · rw [← h1]; exact ⟨rfl, h2⟩
  · rw [h1]; exact ⟨hz, q', h2⟩
theorem rnext_al {lo hi t : Nat} {L : List Int} (h : Rmv σ o x r s q most out v 0) (hc : chk L = 0) (hT : TabR lo hi L σ t) (hhi : hi ≤ σ.next) (hto : ∀ b ∈ o, b < lo ∨ hi ≤ b) :
    ACalls PG n_ref03_inflater_next [.ptr x 0, .ptr t 0] σ fun w σ' => ∃ c : Nat, w = .int .i64 (c : Nat) ∧ Grow o o σ σ' ∧ match rNext L s q with
    | .ok (c', q') => c' = (c : Nat) ∧ c < L.length ∧ Rmv σ' o x r s q' most out v 0
    | .error z => z ≠ 0 ∧ ∃ q', Rmv σ' o x r s q' most out v z := by
  refine (rnext (L := L) (lo := lo) (hi := hi) (k := rPure) (D := rBind (rNext L) rPure s q) (.inl ⟨q, rfl, h⟩) (fun _ => ⟨t, rfl, hc, hT⟩) hhi hto).mono ?_
  rintro w σ' ⟨c, rfl, g, h'⟩
  refine ⟨c, rfl, g, ?_⟩
  have hid : rBind (rNext L) rPure s q = rNext L s q := by
    unfold rBind
    cases rNext L s q with
    | error z => rfl
    | ok y => rfl
  rw [hid] at h'
  rcases h' with ⟨hcl, q', h1, h2, _⟩ | ⟨rfl, z, q', hz, h1, h2⟩
  · rw [← h1]; exact ⟨rfl, hcl, h2⟩
  · rw [h1]; exact ⟨hz, q', h2⟩
def SymQ (σ : Mem) (o : List Nat) (x r : Nat) (s : ByteArray) (most : Int) (k : List UInt8 → Rd β) (D : Except Int (β × Nat)) (σ' : Mem) : Prop := ∃ o' v' out', Grow o o' σ σ' ∧ Rst σ' o' x r s most out' v' (k out') D
theorem SymQ.dead {k : List UInt8 → Rd β} {z : Int} {σ' : Mem} {o' : List Nat} (g : Grow o o' σ σ') (hz : z ≠ 0) (hD : D = .error z) (h : Rmv σ' o' x r s q most out v z) : SymQ σ o x r s most k D σ' := ⟨o', v, out, g, .inr ⟨z, q, hz, hD, h⟩⟩
theorem syms_j2 {n f : Nat} {k K3 : List UInt8 → Rd β} {Q : AV → Mem → Prop} {k8 : Mem → Prop} (h : Rmv σ o x r s q most out v 0) (hf : f ≤ 29) (hn : n ≤ 2 ^ 20)
    (hD : rBind (rDist f) (fun d => rBind (if out.length < d then rFail 15 else rBind (rRoom most out n) fun _ => rPure (copyN out d n)) K3) s q = D)
    (hQ : ∀ σ', SymQ σ o x r s most k D σ' → Q (.tup []) σ')
    (hk : ∀ d o' v' σ' q', q ≤ q' → Grow o o' σ σ' → K3 (copyN out d n) s q' = D → Rmv σ' o' x r s q' most (copyN out d n) v' 0 → k8 σ') :
    F_ref03_inflater_symbols_j2 (.ptr x 0) Q k8 (n : Nat) (f : Nat) σ := by
  unfold F_ref03_inflater_symbols_j2
  repeat (first | refine To.go ?_ | with_reducible refine And.intro (by first | omega | exact ⟨rfl, rfl⟩) ?_ | ((with_reducible apply opt); (· (first | with_reducible assumption | rfl))) | ((with_reducible apply ldrw); (· (first | with_reducible assumption | (simp (disch := omega) only [go_sem, *]; try rfl))); (· (first | with_reducible assumption | rfl))) | ((with_reducible apply ldro); (· (first | with_reducible assumption | (simp (disch := omega) only [go_sem, *]; try rfl))); (· (first | with_reducible assumption | rfl))) | ((with_reducible apply st1); (· (first | with_reducible assumption | (simp (disch := omega) only [go_sem, *]; try rfl))); (· simp); (· rfl)) | with_reducible refine ifT rfl ?_ | with_reducible refine ifF (not_not_intro rfl) ?_ | with_reducible refine ifT (by omega) ?_ | with_reducible refine ifF (by omega) ?_)
  refine ldrw h.gx (v := .int .i64 0) rfl ?_
  refine To.go ?_
  refine ifF (by decide) ?_
  refine callW_of (ref03_Distance (c := f) (σ.bump 12) hf) ?_
  rintro _ σ1 ⟨rfl, s1⟩
  replace s1 := s1.ob
  have h1 := h.same s1
  have hdb := disB_le hf
  have hds := (disS_le ⟨f, by omega⟩).1
  dsimp only at hds
  have hD : rBind (rBits (disB f)) (fun a => rBind (if out.length < disS f + a then rFail 15 else rBind (rRoom most out n) fun _ => rPure (copyN out (disS f + a) n)) K3) s q = D := by
    rw [← hD]
    unfold rBind
    rw [rDist_eq hf h.le]
    unfold rBind
    cases rBits (disB f) s q with
    | error z => rfl
    | ok y => rfl
  obtain ⟨db, hdbe⟩ : ∃ n, disB f = n := ⟨_, rfl⟩
  obtain ⟨ds, hdse⟩ : ∃ n, disS f = n := ⟨_, rfl⟩
  rw [hdbe] at hD hdb
  rw [hdse] at hD hds
  rw [hdbe, hdse]
  repeat (first | refine To.go ?_ | with_reducible refine And.intro (by first | omega | exact ⟨rfl, rfl⟩) ?_ | ((with_reducible apply opt); (· (first | with_reducible assumption | rfl))) | ((with_reducible apply ldrw); (· (first | with_reducible assumption | (simp (disch := omega) only [go_sem, *]; try rfl))); (· (first | with_reducible assumption | rfl))) | ((with_reducible apply ldro); (· (first | with_reducible assumption | (simp (disch := omega) only [go_sem, *]; try rfl))); (· (first | with_reducible assumption | rfl))) | ((with_reducible apply st1); (· (first | with_reducible assumption | (simp (disch := omega) only [go_sem, *]; try rfl))); (· simp); (· rfl)) | with_reducible refine ifT rfl ?_ | with_reducible refine ifF (not_not_intro rfl) ?_ | with_reducible refine ifT (by omega) ?_ | with_reducible refine ifF (by omega) ?_)
  refine callW_of (rbits_al (n := db) (by omega) (h1.bump 6)) ?_
  rintro _ σ2 ⟨a, rfl, ha, g2, h2⟩
  replace g2 := (h.g0.then s1).trans g2.ob
  have ha2 : 2 ^ db ≤ 2 ^ 13 := pow_le hdb
  cases e : rBits db s q with
  | error z =>
    rw [e] at h2
    rw [rBind_er e] at hD
    obtain ⟨hz, q2, h2⟩ := h2
    repeat (first | refine To.go ?_ | with_reducible refine And.intro (by first | omega | exact ⟨rfl, rfl⟩) ?_ | ((with_reducible apply opt); (· (first | with_reducible assumption | rfl))) | ((with_reducible apply ldrw); (· (first | with_reducible assumption | (simp (disch := omega) only [go_sem, *]; try rfl))); (· (first | with_reducible assumption | rfl))) | ((with_reducible apply ldro); (· (first | with_reducible assumption | (simp (disch := omega) only [go_sem, *]; try rfl))); (· (first | with_reducible assumption | rfl))) | ((with_reducible apply st1); (· (first | with_reducible assumption | (simp (disch := omega) only [go_sem, *]; try rfl))); (· simp); (· rfl)) | with_reducible refine ifT rfl ?_ | with_reducible refine ifF (not_not_intro rfl) ?_ | with_reducible refine ifT (by omega) ?_ | with_reducible refine ifF (by omega) ?_)
    refine ldrw h2.gx (v := .int .i64 z) rfl ?_
    repeat (first | refine To.go ?_ | with_reducible refine And.intro (by first | omega | exact ⟨rfl, rfl⟩) ?_ | ((with_reducible apply opt); (· (first | with_reducible assumption | rfl))) | ((with_reducible apply ldrw); (· (first | with_reducible assumption | (simp (disch := omega) only [go_sem, *]; try rfl))); (· (first | with_reducible assumption | rfl))) | ((with_reducible apply ldro); (· (first | with_reducible assumption | (simp (disch := omega) only [go_sem, *]; try rfl))); (· (first | with_reducible assumption | rfl))) | ((with_reducible apply st1); (· (first | with_reducible assumption | (simp (disch := omega) only [go_sem, *]; try rfl))); (· simp); (· rfl)) | with_reducible refine ifT rfl ?_ | with_reducible refine ifF (not_not_intro rfl) ?_ | with_reducible refine ifT (by omega) ?_ | with_reducible refine ifF (by omega) ?_)
    exact hQ _ (SymQ.dead (g2.bump _) hz hD.symm (h2.bump _))
  | ok y =>
    obtain ⟨a', q2⟩ := y
    rw [e] at h2
    rw [rBind_ok e] at hD
    obtain ⟨rfl, h2⟩ := h2
    have hq := (Fr.le (.bits db) h.le e).1
    refine To.go ?_
    refine iW_of (by omega) ?_
    rw [show (ds : Int) + (a' : Nat) = ((ds + a' : Nat) : Int) from by omega]
    obtain ⟨d, hd⟩ : ∃ d, ds + a' = d := ⟨_, rfl⟩
    rw [hd] at hD ⊢
    have hd17 : d ≤ 2 ^ 20 := by omega
    have hd1 : 1 ≤ d := by
      have := disS_le ⟨f, by omega⟩
      dsimp only at this
      rw [hdse] at this
      by_cases h4 : f < 4
      · have := this.2.1 h4; omega
      · have := this.2.2 (by omega); omega
    clear e hd ha2 ha hdse hds hdbe hdb
    repeat (first | refine To.go ?_ | with_reducible refine And.intro (by first | omega | exact ⟨rfl, rfl⟩) ?_ | ((with_reducible apply opt); (· (first | with_reducible assumption | rfl))) | ((with_reducible apply ldrw); (· (first | with_reducible assumption | (simp (disch := omega) only [go_sem, *]; try rfl))); (· (first | with_reducible assumption | rfl))) | ((with_reducible apply ldro); (· (first | with_reducible assumption | (simp (disch := omega) only [go_sem, *]; try rfl))); (· (first | with_reducible assumption | rfl))) | ((with_reducible apply st1); (· (first | with_reducible assumption | (simp (disch := omega) only [go_sem, *]; try rfl))); (· simp); (· rfl)) | with_reducible refine ifT rfl ?_ | with_reducible refine ifF (not_not_intro rfl) ?_ | with_reducible refine ifT (by omega) ?_ | with_reducible refine ifF (by omega) ?_)
    refine ldrw h2.gx (v := .int .i64 0) rfl ?_
    repeat (first | refine To.go ?_ | with_reducible refine And.intro (by first | omega | exact ⟨rfl, rfl⟩) ?_ | ((with_reducible apply opt); (· (first | with_reducible assumption | rfl))) | ((with_reducible apply ldrw); (· (first | with_reducible assumption | (simp (disch := omega) only [go_sem, *]; try rfl))); (· (first | with_reducible assumption | rfl))) | ((with_reducible apply ldro); (· (first | with_reducible assumption | (simp (disch := omega) only [go_sem, *]; try rfl))); (· (first | with_reducible assumption | rfl))) | ((with_reducible apply st1); (· (first | with_reducible assumption | (simp (disch := omega) only [go_sem, *]; try rfl))); (· simp); (· rfl)) | with_reducible refine ifT rfl ?_ | with_reducible refine ifF (not_not_intro rfl) ?_ | with_reducible refine ifT (by omega) ?_ | with_reducible refine ifF (by omega) ?_)
    refine ldrw h2.gx (v := v) rfl ?_
    refine h2.own.rdO.len ?_
    by_cases hfar : out.length < d
    · rw [if_pos hfar] at hD
      refine ifT (by omega) ?_
      repeat (first | refine To.go ?_ | with_reducible refine And.intro (by first | omega | exact ⟨rfl, rfl⟩) ?_ | ((with_reducible apply opt); (· (first | with_reducible assumption | rfl))) | ((with_reducible apply ldrw); (· (first | with_reducible assumption | (simp (disch := omega) only [go_sem, *]; try rfl))); (· (first | with_reducible assumption | rfl))) | ((with_reducible apply ldro); (· (first | with_reducible assumption | (simp (disch := omega) only [go_sem, *]; try rfl))); (· (first | with_reducible assumption | rfl))) | ((with_reducible apply st1); (· (first | with_reducible assumption | (simp (disch := omega) only [go_sem, *]; try rfl))); (· simp); (· rfl)) | with_reducible refine ifT rfl ?_ | with_reducible refine ifF (not_not_intro rfl) ?_ | with_reducible refine ifT (by omega) ?_ | with_reducible refine ifF (by omega) ?_)
      refine st1 h2.gx (by simp) rfl ?_
      have hs := (h2.bump 16).set 15
      exact hQ _ (SymQ.dead (g2.bump 16 |>.trans hs.2) (by decide) hD.symm hs.1)
    · rw [if_neg hfar, rBind_assoc] at hD
      refine ifF (by omega) ?_
      have hms := h2.ms
      have hroom0 := h2.room
      have hob : out.length ≤ 2 ^ 40 := by
        rcases hroom0 with rfl | h
        · simp
        · omega
      repeat (first | refine To.go ?_ | with_reducible refine And.intro (by first | omega | exact ⟨rfl, rfl⟩) ?_ | ((with_reducible apply opt); (· (first | with_reducible assumption | rfl))) | ((with_reducible apply ldrw); (· (first | with_reducible assumption | (simp (disch := omega) only [go_sem, *]; try rfl))); (· (first | with_reducible assumption | rfl))) | ((with_reducible apply ldro); (· (first | with_reducible assumption | (simp (disch := omega) only [go_sem, *]; try rfl))); (· (first | with_reducible assumption | rfl))) | ((with_reducible apply st1); (· (first | with_reducible assumption | (simp (disch := omega) only [go_sem, *]; try rfl))); (· simp); (· rfl)) | with_reducible refine ifT rfl ?_ | with_reducible refine ifF (not_not_intro rfl) ?_ | with_reducible refine ifT (by omega) ?_ | with_reducible refine ifF (by omega) ?_)
      refine ldrw h2.gx (v := v) rfl ?_
      refine h2.own.rdO.len ?_
      refine iW_of (by omega) ?_
      repeat (first | refine To.go ?_ | with_reducible refine And.intro (by first | omega | exact ⟨rfl, rfl⟩) ?_ | ((with_reducible apply opt); (· (first | with_reducible assumption | rfl))) | ((with_reducible apply ldrw); (· (first | with_reducible assumption | (simp (disch := omega) only [go_sem, *]; try rfl))); (· (first | with_reducible assumption | rfl))) | ((with_reducible apply ldro); (· (first | with_reducible assumption | (simp (disch := omega) only [go_sem, *]; try rfl))); (· (first | with_reducible assumption | rfl))) | ((with_reducible apply st1); (· (first | with_reducible assumption | (simp (disch := omega) only [go_sem, *]; try rfl))); (· simp); (· rfl)) | with_reducible refine ifT rfl ?_ | with_reducible refine ifF (not_not_intro rfl) ?_ | with_reducible refine ifT (by omega) ?_ | with_reducible refine ifF (by omega) ?_)
      refine ldrw h2.gx (v := .int .i64 most) rfl ?_
      refine To.go ?_
      by_cases hr : most - out.length < n
      · rw [rBind_er (e := 5) (by unfold rRoom; rw [if_pos hr]; rfl)] at hD
        refine ifT (by omega) ?_
        repeat (first | refine To.go ?_ | with_reducible refine And.intro (by first | omega | exact ⟨rfl, rfl⟩) ?_ | ((with_reducible apply opt); (· (first | with_reducible assumption | rfl))) | ((with_reducible apply ldrw); (· (first | with_reducible assumption | (simp (disch := omega) only [go_sem, *]; try rfl))); (· (first | with_reducible assumption | rfl))) | ((with_reducible apply ldro); (· (first | with_reducible assumption | (simp (disch := omega) only [go_sem, *]; try rfl))); (· (first | with_reducible assumption | rfl))) | ((with_reducible apply st1); (· (first | with_reducible assumption | (simp (disch := omega) only [go_sem, *]; try rfl))); (· simp); (· rfl)) | with_reducible refine ifT rfl ?_ | with_reducible refine ifF (not_not_intro rfl) ?_ | with_reducible refine ifT (by omega) ?_ | with_reducible refine ifF (by omega) ?_)
        refine st1 h2.gx (by simp) rfl ?_
        have hs := (h2.bump 28).set 5
        exact hQ _ (SymQ.dead (g2.bump 28 |>.trans hs.2) (by decide) hD.symm hs.1)
      · rw [rBind_ok (a := ()) (q := q2) (by unfold rRoom; rw [if_neg hr]; rfl), rBind_pure] at hD
        refine ifF (by omega) ?_
        refine loop1 (fun (i : Nat) (y : Int) σ' => y = i ∧ i ≤ n ∧ ∃ o' v', Grow o o' σ σ' ∧ Rmv σ' o' x r s q2 most (copyN out d i) v' 0) (fun i => n - i) 0 ⟨rfl, by omega, o, v, g2.bump _, h2.bump _⟩ ?_
        clear h1 h2 s1
        rintro i _ σ4 ⟨rfl, hi, o4, v4, g4, h4⟩
        unfold F_ref03_inflater_symbols_l2
        refine ifD (fun hin => ?_) (fun hin => ?_)
        · have hclen := copyN_len out d i
          have hcs : copyN out d (i + 1) = copyN out d i ++ [(copyN out d i)[(copyN out d i).length - d]?.getD 0] := rfl
          obtain ⟨y, hy⟩ : ∃ y, copyN out d i = y := ⟨_, rfl⟩
          rw [hy] at h4 hclen hcs
          rw [hclen] at hcs
          have hlast := bl_last (out := y) (i := out.length + i - d) (by omega)
          obtain ⟨z, hz⟩ : ∃ z, y[out.length + i - d]?.getD 0 = z := ⟨_, rfl⟩
          rw [hz] at hcs hlast
          refine To.go ?_
          refine ldrw h4.gx (v := v4) rfl ?_
          refine To.go ?_
          refine ldrw h4.gx (v := v4) rfl ?_
          refine To.go ?_
          refine ldrw h4.gx (v := v4) rfl ?_
          refine h4.own.rdO.len ?_
          refine iW_of (by omega) ?_
          rw [hclen, show (((out.length + i : Nat) : Int) - (d : Int)) = ((out.length + i - d : Nat) : Int) from by omega]
          obtain ⟨u, rfl, hu, _⟩ := h4.own.sl (by omega)
          repeat (first | refine To.go ?_ | with_reducible refine And.intro (by first | omega | exact ⟨rfl, rfl⟩) ?_ | ((with_reducible apply opt); (· (first | with_reducible assumption | rfl))) | ((with_reducible apply ldrw); (· (first | with_reducible assumption | (simp (disch := omega) only [go_sem, *]; try rfl))); (· (first | with_reducible assumption | rfl))) | ((with_reducible apply ldro); (· (first | with_reducible assumption | (simp (disch := omega) only [go_sem, *]; try rfl))); (· (first | with_reducible assumption | rfl))) | ((with_reducible apply st1); (· (first | with_reducible assumption | (simp (disch := omega) only [go_sem, *]; try rfl))); (· simp); (· rfl)) | with_reducible refine ifT rfl ?_ | with_reducible refine ifF (not_not_intro rfl) ?_ | with_reducible refine ifT (by omega) ?_ | with_reducible refine ifF (by omega) ?_)
          refine h4.push (bytes := [z]) (m := 1) (by repeat (with_reducible first | assumption | exact Mem.Only.refl _ _ | exact Mem.Same.refl _ | refine Mem.Only.bump ?_ _ | refine Mem.Only.put ?_ (by simp) _ | refine Mem.Only.put ?_ (.inr (by first | omega | (simp only [Mem.next_bump, Mem.next_put]; omega))) _ | refine Mem.Same.bump ?_ _ | refine Mem.Same.put ?_ (by first | omega | (simp only [Mem.next_bump, Mem.next_put]; omega)) _)) (fun K hK => ?_) rfl ⟨by omega, by simp only [Mem.next_put, Mem.next_bump]; omega⟩ (.inr (by simp only [List.length_singleton]; omega)) ?_
          · exact src_new (Mem.get_put_self _ _ _) rfl rfl K hK
          intro o5 v5 σ5 h5 g5 n5
          refine iW_of (by omega) ?_
          refine again ⟨i + 1, ⟨by omega, by omega, o5, v5, (g4.trans g5).bump _, ?_⟩, by omega⟩
          rw [hcs]; exact h5.bump _
        · obtain rfl : i = n := by omega
          exact hk d o4 v4 _ q2 hq (g4.bump _) hD (h4.bump _)
end
end Go.Vit
