/- The document's blocks of symbols. -/
import Derived.Test.YtjddffdjbeemaaaV3R8
set_option linter.unusedVariables false
set_option linter.unusedSimpArgs false
set_option linter.unusedSimpArgs false
set_option maxRecDepth 20000
namespace Go.Vit
open Go.Proofs
section
variable {σ σ' : Mem} {o : List Nat} {x r p q : Nat} {s : ByteArray} {most e : Int} {out : List UInt8} {v : AV} {β : Type} {D : Except Int (β × Nat)} {m : Rd β}
theorem SymQ.of {o2 : List Nat} {k : List UInt8 → Rd β} {σ1 σ' : Mem} (g : Grow o o2 σ σ1) (h : SymQ σ1 o2 x r s most k D σ') : SymQ σ o x r s most k D σ' := by
  obtain ⟨o', v', out', g', h⟩ := h
  exact ⟨o', v', out', g.trans g', h⟩
theorem syms_l1 {lo hi t lo2 hi2 t2 f : Nat} {L Dd : List Int} {k : List UInt8 → Rd β} {Q : AV → Mem → Prop} {next : Mem → Prop} (h : Rmv σ o x r s q most out v 0)
    (hc : chk L = 0) (hLl : L.length ≤ 2 ^ 20) (ht : TabR lo hi L σ t) (hhi : hi ≤ σ.next) (hto : ∀ b ∈ o, b < lo ∨ hi ≤ b)
    (hc2 : chk Dd = 0) (ht2 : TabR lo2 hi2 Dd σ t2) (hhi2 : hi2 ≤ σ.next) (hto2 : ∀ b ∈ o, b < lo2 ∨ hi2 ≤ b)
    (hD : rBind (rSyms most L Dd (f + 1) out) k s q = D)
    (hQ : ∀ σ', SymQ σ o x r s most k D σ' → Q (.tup []) σ')
    (hk : ∀ o' v' out' σ' q', q < q' → Grow o o' σ σ' → rBind (rSyms most L Dd f out') k s q' = D → Rmv σ' o' x r s q' most out' v' 0 → next σ') :
    F_ref03_inflater_symbols_l1 (.ptr x 0) Q (.ptr t 0) (.ptr t2 0) next σ := by
  unfold F_ref03_inflater_symbols_l1
  unfold rSyms at hD
  rw [rBind_assoc] at hD
  have hms := h.ms
  have hob : out.length ≤ 2 ^ 40 := by
    rcases h.room with rfl | h
    · simp
    · omega
  repeat (first | refine To.go ?_ | with_reducible refine And.intro (by first | omega | exact ⟨rfl, rfl⟩) ?_ | ((with_reducible apply opt); (· (first | with_reducible assumption | rfl))) | ((with_reducible apply ldrw); (· (first | with_reducible assumption | (simp (disch := omega) only [go_sem, *]; try rfl))); (· (first | with_reducible assumption | rfl))) | ((with_reducible apply ldro); (· (first | with_reducible assumption | (simp (disch := omega) only [go_sem, *]; try rfl))); (· (first | with_reducible assumption | rfl))) | ((with_reducible apply st1); (· (first | with_reducible assumption | (simp (disch := omega) only [go_sem, *]; try rfl))); (· simp); (· rfl)) | with_reducible refine ifT rfl ?_ | with_reducible refine ifF (not_not_intro rfl) ?_ | with_reducible refine ifT (by omega) ?_ | with_reducible refine ifF (by omega) ?_)
  refine ldrw h.gx (v := .int .i64 0) rfl ?_
  refine To.go ?_
  refine ifT rfl ?_
  refine joinI ?_
  refine callW_of (rnext_al (h.bump 9) hc (ht.keep fun _ _ _ => rfl) (by simp only [Mem.next_bump]; omega) hto) ?_
  rintro _ σ1 ⟨c, rfl, g1, h1⟩
  replace g1 := g1.ob
  have n1 := g1.only.next
  cases e : rNext L s q with
  | error z =>
    rw [e] at h1
    rw [rBind_er e] at hD
    obtain ⟨hz, q1, h1⟩ := h1
    repeat (first | refine To.go ?_ | with_reducible refine And.intro (by first | omega | exact ⟨rfl, rfl⟩) ?_ | ((with_reducible apply opt); (· (first | with_reducible assumption | rfl))) | ((with_reducible apply ldrw); (· (first | with_reducible assumption | (simp (disch := omega) only [go_sem, *]; try rfl))); (· (first | with_reducible assumption | rfl))) | ((with_reducible apply ldro); (· (first | with_reducible assumption | (simp (disch := omega) only [go_sem, *]; try rfl))); (· (first | with_reducible assumption | rfl))) | ((with_reducible apply st1); (· (first | with_reducible assumption | (simp (disch := omega) only [go_sem, *]; try rfl))); (· simp); (· rfl)) | with_reducible refine ifT rfl ?_ | with_reducible refine ifF (not_not_intro rfl) ?_ | with_reducible refine ifT (by omega) ?_ | with_reducible refine ifF (by omega) ?_)
    refine ldrw h1.gx (v := .int .i64 z) rfl ?_
    repeat (first | refine To.go ?_ | with_reducible refine And.intro (by first | omega | exact ⟨rfl, rfl⟩) ?_ | ((with_reducible apply opt); (· (first | with_reducible assumption | rfl))) | ((with_reducible apply ldrw); (· (first | with_reducible assumption | (simp (disch := omega) only [go_sem, *]; try rfl))); (· (first | with_reducible assumption | rfl))) | ((with_reducible apply ldro); (· (first | with_reducible assumption | (simp (disch := omega) only [go_sem, *]; try rfl))); (· (first | with_reducible assumption | rfl))) | ((with_reducible apply st1); (· (first | with_reducible assumption | (simp (disch := omega) only [go_sem, *]; try rfl))); (· simp); (· rfl)) | with_reducible refine ifT rfl ?_ | with_reducible refine ifF (not_not_intro rfl) ?_ | with_reducible refine ifT (by omega) ?_ | with_reducible refine ifF (by omega) ?_)
    exact hQ _ (SymQ.dead (g1.bump _) hz hD.symm (h1.bump _))
  | ok y =>
    obtain ⟨c', q1⟩ := y
    rw [e] at h1
    rw [rBind_ok e] at hD
    obtain ⟨rfl, hcl, h1⟩ := h1
    have hq1 := next_gt e
    rw [Int.toNat_natCast] at hD
    clear e
    repeat (first | refine To.go ?_ | with_reducible refine And.intro (by first | omega | exact ⟨rfl, rfl⟩) ?_ | ((with_reducible apply opt); (· (first | with_reducible assumption | rfl))) | ((with_reducible apply ldrw); (· (first | with_reducible assumption | (simp (disch := omega) only [go_sem, *]; try rfl))); (· (first | with_reducible assumption | rfl))) | ((with_reducible apply ldro); (· (first | with_reducible assumption | (simp (disch := omega) only [go_sem, *]; try rfl))); (· (first | with_reducible assumption | rfl))) | ((with_reducible apply st1); (· (first | with_reducible assumption | (simp (disch := omega) only [go_sem, *]; try rfl))); (· simp); (· rfl)) | with_reducible refine ifT rfl ?_ | with_reducible refine ifF (not_not_intro rfl) ?_ | with_reducible refine ifT (by omega) ?_ | with_reducible refine ifF (by omega) ?_)
    refine ldrw h1.gx (v := .int .i64 0) rfl ?_
    repeat (first | refine To.go ?_ | with_reducible refine And.intro (by first | omega | exact ⟨rfl, rfl⟩) ?_ | ((with_reducible apply opt); (· (first | with_reducible assumption | rfl))) | ((with_reducible apply ldrw); (· (first | with_reducible assumption | (simp (disch := omega) only [go_sem, *]; try rfl))); (· (first | with_reducible assumption | rfl))) | ((with_reducible apply ldro); (· (first | with_reducible assumption | (simp (disch := omega) only [go_sem, *]; try rfl))); (· (first | with_reducible assumption | rfl))) | ((with_reducible apply st1); (· (first | with_reducible assumption | (simp (disch := omega) only [go_sem, *]; try rfl))); (· simp); (· rfl)) | with_reducible refine ifT rfl ?_ | with_reducible refine ifF (not_not_intro rfl) ?_ | with_reducible refine ifT (by omega) ?_ | with_reducible refine ifF (by omega) ?_)
    refine ifD (fun h256 => ?_) (fun h256 => ?_)
    · rw [if_neg (by omega), if_pos (by omega), rBind_pure] at hD
      exact hQ _ ⟨o, v, out, g1.bump _, .inl ⟨q1, hD, h1.bump _⟩⟩
    refine ifD (fun hlt => ?_) (fun hge => ?_)
    · rw [if_pos hlt, rBind_assoc] at hD
      repeat (first | refine To.go ?_ | with_reducible refine And.intro (by first | omega | exact ⟨rfl, rfl⟩) ?_ | ((with_reducible apply opt); (· (first | with_reducible assumption | rfl))) | ((with_reducible apply ldrw); (· (first | with_reducible assumption | (simp (disch := omega) only [go_sem, *]; try rfl))); (· (first | with_reducible assumption | rfl))) | ((with_reducible apply ldro); (· (first | with_reducible assumption | (simp (disch := omega) only [go_sem, *]; try rfl))); (· (first | with_reducible assumption | rfl))) | ((with_reducible apply st1); (· (first | with_reducible assumption | (simp (disch := omega) only [go_sem, *]; try rfl))); (· simp); (· rfl)) | with_reducible refine ifT rfl ?_ | with_reducible refine ifF (not_not_intro rfl) ?_ | with_reducible refine ifT (by omega) ?_ | with_reducible refine ifF (by omega) ?_)
      refine ldrw h1.gx (v := v) rfl ?_
      refine h1.own.rdO.len ?_
      refine iW_of (by omega) ?_
      repeat (first | refine To.go ?_ | with_reducible refine And.intro (by first | omega | exact ⟨rfl, rfl⟩) ?_ | ((with_reducible apply opt); (· (first | with_reducible assumption | rfl))) | ((with_reducible apply ldrw); (· (first | with_reducible assumption | (simp (disch := omega) only [go_sem, *]; try rfl))); (· (first | with_reducible assumption | rfl))) | ((with_reducible apply ldro); (· (first | with_reducible assumption | (simp (disch := omega) only [go_sem, *]; try rfl))); (· (first | with_reducible assumption | rfl))) | ((with_reducible apply st1); (· (first | with_reducible assumption | (simp (disch := omega) only [go_sem, *]; try rfl))); (· simp); (· rfl)) | with_reducible refine ifT rfl ?_ | with_reducible refine ifF (not_not_intro rfl) ?_ | with_reducible refine ifT (by omega) ?_ | with_reducible refine ifF (by omega) ?_)
      refine ldrw h1.gx (v := .int .i64 most) rfl ?_
      refine To.go ?_
      by_cases hr : most - out.length < (1 : Nat)
      · rw [rBind_er (e := 5) (by unfold rRoom; rw [if_pos hr]; rfl)] at hD
        refine ifT (by omega) ?_
        repeat (first | refine To.go ?_ | with_reducible refine And.intro (by first | omega | exact ⟨rfl, rfl⟩) ?_ | ((with_reducible apply opt); (· (first | with_reducible assumption | rfl))) | ((with_reducible apply ldrw); (· (first | with_reducible assumption | (simp (disch := omega) only [go_sem, *]; try rfl))); (· (first | with_reducible assumption | rfl))) | ((with_reducible apply ldro); (· (first | with_reducible assumption | (simp (disch := omega) only [go_sem, *]; try rfl))); (· (first | with_reducible assumption | rfl))) | ((with_reducible apply st1); (· (first | with_reducible assumption | (simp (disch := omega) only [go_sem, *]; try rfl))); (· simp); (· rfl)) | with_reducible refine ifT rfl ?_ | with_reducible refine ifF (not_not_intro rfl) ?_ | with_reducible refine ifT (by omega) ?_ | with_reducible refine ifF (by omega) ?_)
        refine st1 h1.gx (by simp) rfl ?_
        have hs := (h1.bump 26).set 5
        exact hQ _ (SymQ.dead (g1.bump 26 |>.trans hs.2) (by decide) hD.symm hs.1)
      · rw [rBind_ok (a := ()) (q := q1) (by unfold rRoom; rw [if_neg hr]; rfl)] at hD
        refine ifF (by omega) ?_
        repeat (first | refine To.go ?_ | with_reducible refine And.intro (by first | omega | exact ⟨rfl, rfl⟩) ?_ | ((with_reducible apply opt); (· (first | with_reducible assumption | rfl))) | ((with_reducible apply ldrw); (· (first | with_reducible assumption | (simp (disch := omega) only [go_sem, *]; try rfl))); (· (first | with_reducible assumption | rfl))) | ((with_reducible apply ldro); (· (first | with_reducible assumption | (simp (disch := omega) only [go_sem, *]; try rfl))); (· (first | with_reducible assumption | rfl))) | ((with_reducible apply st1); (· (first | with_reducible assumption | (simp (disch := omega) only [go_sem, *]; try rfl))); (· simp); (· rfl)) | with_reducible refine ifT rfl ?_ | with_reducible refine ifF (not_not_intro rfl) ?_ | with_reducible refine ifT (by omega) ?_ | with_reducible refine ifF (by omega) ?_)
        refine ldrw h1.gx (v := v) rfl ?_
        refine To.go ?_
        rw [Int.emod_eq_of_lt (by omega) hlt]
        refine To.go ?_
        refine h1.push (bytes := [UInt8.ofNat c]) (m := 1) (by repeat (with_reducible first | assumption | exact Mem.Only.refl _ _ | exact Mem.Same.refl _ | refine Mem.Only.bump ?_ _ | refine Mem.Only.put ?_ (by simp) _ | refine Mem.Only.put ?_ (.inr (by first | omega | (simp only [Mem.next_bump, Mem.next_put]; omega))) _ | refine Mem.Same.bump ?_ _ | refine Mem.Same.put ?_ (by first | omega | (simp only [Mem.next_bump, Mem.next_put]; omega)) _)) (fun K hK => ?_) rfl ⟨by omega, by simp only [Mem.next_put, Mem.next_bump]; omega⟩ (.inr (by simp only [List.length_singleton]; omega)) ?_
        · refine src_new (Mem.get_put_self _ _ _) rfl rfl K ?_
          rw [bl_one_byte (by omega), Int.toNat_natCast]
          exact hK
        intro o5 v5 σ5 h5 g5 n5
        unfold F_ref03_inflater_symbols_j1
        exact hk o5 v5 _ σ5 q1 hq1 (g1.trans g5) hD h5
    rw [if_neg hge, if_neg h256, rBind_assoc] at hD
    have hlow : 257 ≤ c := by omega
    unfold rMatch at hD
    rw [rBind_assoc] at hD
    refine ifD (fun h285 => ?_) (fun h285 => ?_)
    · rw [rBind_er (e := 12) (by unfold rLen; rw [if_pos (by omega)]; rfl)] at hD
      repeat (first | refine To.go ?_ | with_reducible refine And.intro (by first | omega | exact ⟨rfl, rfl⟩) ?_ | ((with_reducible apply opt); (· (first | with_reducible assumption | rfl))) | ((with_reducible apply ldrw); (· (first | with_reducible assumption | (simp (disch := omega) only [go_sem, *]; try rfl))); (· (first | with_reducible assumption | rfl))) | ((with_reducible apply ldro); (· (first | with_reducible assumption | (simp (disch := omega) only [go_sem, *]; try rfl))); (· (first | with_reducible assumption | rfl))) | ((with_reducible apply st1); (· (first | with_reducible assumption | (simp (disch := omega) only [go_sem, *]; try rfl))); (· simp); (· rfl)) | with_reducible refine ifT rfl ?_ | with_reducible refine ifF (not_not_intro rfl) ?_ | with_reducible refine ifT (by omega) ?_ | with_reducible refine ifF (by omega) ?_)
      refine st1 h1.gx (by simp) rfl ?_
      have hs := (h1.bump 17).set 12
      exact hQ _ (SymQ.dead (g1.bump 17 |>.trans hs.2) (by decide) hD.symm hs.1)
    have hup : c ≤ 285 := by omega
    obtain ⟨G, hG⟩ : ∃ G : Nat → Rd β, (fun n => rBind (rBind (rNext Dd) fun f => rBind (rDist f.toNat) fun d => if out.length < d then rFail 15 else rBind (rRoom most out n) fun _ => rPure (copyN out d n)) fun a => rBind (rSyms most L Dd f a) k) = G := ⟨_, rfl⟩
    have hD : rBind (rBits (lenB c)) (fun a => G (lenA c + a)) s q1 = D := by
      rw [← hD, ← hG]
      unfold rBind
      rw [rLen_eq hlow hup h1.le]
      unfold rBind
      cases rBits (lenB c) s q1 with
      | error z => rfl
      | ok y => rfl
    have hlb := lenB_le hup
    have hla : lenA c ≤ 600 := by
      unfold lenA
      split
      · omega
      · exact Nat.le_trans (lenS_le ⟨c - 257, by omega⟩).1 (by omega)
    refine callW_of (ref03_Length (c := c) (σ1.bump 20) hlow hup) ?_
    rintro _ σ2 ⟨rfl, s2⟩
    replace s2 := s2.ob
    obtain ⟨db, hdbe⟩ : ∃ n, lenB c = n := ⟨_, rfl⟩
    obtain ⟨ds, hdse⟩ : ∃ n, lenA c = n := ⟨_, rfl⟩
    rw [hdbe] at hD hlb
    rw [hdse] at hD hla
    rw [hdbe, hdse]
    have h2 := h1.same s2
    replace g1 := g1.then s2
    repeat (first | refine To.go ?_ | with_reducible refine And.intro (by first | omega | exact ⟨rfl, rfl⟩) ?_ | ((with_reducible apply opt); (· (first | with_reducible assumption | rfl))) | ((with_reducible apply ldrw); (· (first | with_reducible assumption | (simp (disch := omega) only [go_sem, *]; try rfl))); (· (first | with_reducible assumption | rfl))) | ((with_reducible apply ldro); (· (first | with_reducible assumption | (simp (disch := omega) only [go_sem, *]; try rfl))); (· (first | with_reducible assumption | rfl))) | ((with_reducible apply st1); (· (first | with_reducible assumption | (simp (disch := omega) only [go_sem, *]; try rfl))); (· simp); (· rfl)) | with_reducible refine ifT rfl ?_ | with_reducible refine ifF (not_not_intro rfl) ?_ | with_reducible refine ifT (by omega) ?_ | with_reducible refine ifF (by omega) ?_)
    refine callW_of (rbits_al (n := db) (by omega) (h2.bump 6)) ?_
    rintro _ σ3 ⟨a, rfl, ha, g3, h3⟩
    replace g3 := g1.trans g3.ob
    have n3 := g3.only.next
    have ha2 : 2 ^ db ≤ 2 ^ 5 := pow_le hlb
    refine To.go ?_
    refine iW_of (by omega) ?_
    rw [show (ds : Int) + (a : Nat) = ((ds + a : Nat) : Int) from by omega]
    obtain ⟨n, hn⟩ : ∃ n, ds + a = n := ⟨_, rfl⟩
    have hn20 : n ≤ 2 ^ 20 := by omega
    cases e : rBits db s q1 with
    | error z =>
      rw [e] at h3
      rw [rBind_er e] at hD
      obtain ⟨hz, q2, h3⟩ := h3
      refine callW_of (rnext_dead (h3.bump 4) hz) ?_
      rintro _ σ4 ⟨rfl, s4⟩
      replace s4 := s4.ob
      have h4 := h3.same s4
      replace g3 := g3.then s4
      repeat (first | refine To.go ?_ | with_reducible refine And.intro (by first | omega | exact ⟨rfl, rfl⟩) ?_ | ((with_reducible apply opt); (· (first | with_reducible assumption | rfl))) | ((with_reducible apply ldrw); (· (first | with_reducible assumption | (simp (disch := omega) only [go_sem, *]; try rfl))); (· (first | with_reducible assumption | rfl))) | ((with_reducible apply ldro); (· (first | with_reducible assumption | (simp (disch := omega) only [go_sem, *]; try rfl))); (· (first | with_reducible assumption | rfl))) | ((with_reducible apply st1); (· (first | with_reducible assumption | (simp (disch := omega) only [go_sem, *]; try rfl))); (· simp); (· rfl)) | with_reducible refine ifT rfl ?_ | with_reducible refine ifF (not_not_intro rfl) ?_ | with_reducible refine ifT (by omega) ?_ | with_reducible refine ifF (by omega) ?_)
      refine ldrw h4.gx (v := .int .i64 z) rfl ?_
      refine To.go ?_
      refine ifF hz ?_
      refine joinI ?_
      unfold F_ref03_inflater_symbols_j3
      repeat (first | refine To.go ?_ | with_reducible refine And.intro (by first | omega | exact ⟨rfl, rfl⟩) ?_ | ((with_reducible apply opt); (· (first | with_reducible assumption | rfl))) | ((with_reducible apply ldrw); (· (first | with_reducible assumption | (simp (disch := omega) only [go_sem, *]; try rfl))); (· (first | with_reducible assumption | rfl))) | ((with_reducible apply ldro); (· (first | with_reducible assumption | (simp (disch := omega) only [go_sem, *]; try rfl))); (· (first | with_reducible assumption | rfl))) | ((with_reducible apply st1); (· (first | with_reducible assumption | (simp (disch := omega) only [go_sem, *]; try rfl))); (· simp); (· rfl)) | with_reducible refine ifT rfl ?_ | with_reducible refine ifF (not_not_intro rfl) ?_ | with_reducible refine ifT (by omega) ?_ | with_reducible refine ifF (by omega) ?_)
      refine ldrw h4.gx (v := .int .i64 z) rfl ?_
      refine To.go ?_
      refine ifT hz ?_
      exact hQ _ (SymQ.dead ((g3.bump _).bump _) hz hD.symm ((h4.bump _).bump _))
    | ok y =>
      obtain ⟨a', q2⟩ := y
      rw [e] at h3
      rw [rBind_ok e] at hD
      obtain ⟨rfl, h3⟩ := h3
      have hq2 := (Fr.le (.bits db) h1.le e).1
      rw [hn] at hD ⊢
      rw [← hG] at hD
      dsimp only at hD
      rw [rBind_assoc] at hD
      refine callW_of (rnext_al (h3.bump 4) hc2 (ht2.keep fun b h1 h2 => ?_) (by simp only [Mem.next_bump]; omega) hto2) ?_
      · rw [Mem.get_bump]; exact g3.only.get b (by omega) fun hm => by have := hto2 b hm; omega
      rintro _ σ4 ⟨f2, rfl, g4, h4⟩
      replace g4 := g3.trans g4.ob
      clear e
      cases e : rNext Dd s q2 with
      | error z =>
        rw [e] at h4
        rw [rBind_er e] at hD
        obtain ⟨hz, q3, h4⟩ := h4
        repeat (first | refine To.go ?_ | with_reducible refine And.intro (by first | omega | exact ⟨rfl, rfl⟩) ?_ | ((with_reducible apply opt); (· (first | with_reducible assumption | rfl))) | ((with_reducible apply ldrw); (· (first | with_reducible assumption | (simp (disch := omega) only [go_sem, *]; try rfl))); (· (first | with_reducible assumption | rfl))) | ((with_reducible apply ldro); (· (first | with_reducible assumption | (simp (disch := omega) only [go_sem, *]; try rfl))); (· (first | with_reducible assumption | rfl))) | ((with_reducible apply st1); (· (first | with_reducible assumption | (simp (disch := omega) only [go_sem, *]; try rfl))); (· simp); (· rfl)) | with_reducible refine ifT rfl ?_ | with_reducible refine ifF (not_not_intro rfl) ?_ | with_reducible refine ifT (by omega) ?_ | with_reducible refine ifF (by omega) ?_)
        refine ldrw h4.gx (v := .int .i64 z) rfl ?_
        refine To.go ?_
        refine ifF hz ?_
        refine joinI ?_
        unfold F_ref03_inflater_symbols_j3
        repeat (first | refine To.go ?_ | with_reducible refine And.intro (by first | omega | exact ⟨rfl, rfl⟩) ?_ | ((with_reducible apply opt); (· (first | with_reducible assumption | rfl))) | ((with_reducible apply ldrw); (· (first | with_reducible assumption | (simp (disch := omega) only [go_sem, *]; try rfl))); (· (first | with_reducible assumption | rfl))) | ((with_reducible apply ldro); (· (first | with_reducible assumption | (simp (disch := omega) only [go_sem, *]; try rfl))); (· (first | with_reducible assumption | rfl))) | ((with_reducible apply st1); (· (first | with_reducible assumption | (simp (disch := omega) only [go_sem, *]; try rfl))); (· simp); (· rfl)) | with_reducible refine ifT rfl ?_ | with_reducible refine ifF (not_not_intro rfl) ?_ | with_reducible refine ifT (by omega) ?_ | with_reducible refine ifF (by omega) ?_)
        refine ldrw h4.gx (v := .int .i64 z) rfl ?_
        refine To.go ?_
        refine ifT hz ?_
        exact hQ _ (SymQ.dead ((g4.bump _).bump _) hz hD.symm ((h4.bump _).bump _))
      | ok y =>
        obtain ⟨c', q3⟩ := y
        rw [e] at h4
        rw [rBind_ok e] at hD
        obtain ⟨rfl, hcl2, h4⟩ := h4
        have hq3 := next_gt e
        rw [Int.toNat_natCast, rBind_assoc] at hD
        repeat (first | refine To.go ?_ | with_reducible refine And.intro (by first | omega | exact ⟨rfl, rfl⟩) ?_ | ((with_reducible apply opt); (· (first | with_reducible assumption | rfl))) | ((with_reducible apply ldrw); (· (first | with_reducible assumption | (simp (disch := omega) only [go_sem, *]; try rfl))); (· (first | with_reducible assumption | rfl))) | ((with_reducible apply ldro); (· (first | with_reducible assumption | (simp (disch := omega) only [go_sem, *]; try rfl))); (· (first | with_reducible assumption | rfl))) | ((with_reducible apply st1); (· (first | with_reducible assumption | (simp (disch := omega) only [go_sem, *]; try rfl))); (· simp); (· rfl)) | with_reducible refine ifT rfl ?_ | with_reducible refine ifF (not_not_intro rfl) ?_ | with_reducible refine ifT (by omega) ?_ | with_reducible refine ifF (by omega) ?_)
        refine ldrw h4.gx (v := .int .i64 0) rfl ?_
        refine To.go ?_
        refine ifT rfl ?_
        refine joinI ?_
        by_cases hf : 29 < f2
        · rw [rBind_er (e := 12) (by unfold rDist; rw [if_pos hf]; rfl)] at hD
          refine ifT (by omega) ?_
          repeat (first | refine To.go ?_ | with_reducible refine And.intro (by first | omega | exact ⟨rfl, rfl⟩) ?_ | ((with_reducible apply opt); (· (first | with_reducible assumption | rfl))) | ((with_reducible apply ldrw); (· (first | with_reducible assumption | (simp (disch := omega) only [go_sem, *]; try rfl))); (· (first | with_reducible assumption | rfl))) | ((with_reducible apply ldro); (· (first | with_reducible assumption | (simp (disch := omega) only [go_sem, *]; try rfl))); (· (first | with_reducible assumption | rfl))) | ((with_reducible apply st1); (· (first | with_reducible assumption | (simp (disch := omega) only [go_sem, *]; try rfl))); (· simp); (· rfl)) | with_reducible refine ifT rfl ?_ | with_reducible refine ifF (not_not_intro rfl) ?_ | with_reducible refine ifT (by omega) ?_ | with_reducible refine ifF (by omega) ?_)
          refine st1 h4.gx (by simp) rfl ?_
          have hs := (h4.bump 13).set 12
          unfold F_ref03_inflater_symbols_j2
          repeat (first | refine To.go ?_ | with_reducible refine And.intro (by first | omega | exact ⟨rfl, rfl⟩) ?_ | ((with_reducible apply opt); (· (first | with_reducible assumption | rfl))) | ((with_reducible apply ldrw); (· (first | with_reducible assumption | (simp (disch := omega) only [go_sem, *]; try rfl))); (· (first | with_reducible assumption | rfl))) | ((with_reducible apply ldro); (· (first | with_reducible assumption | (simp (disch := omega) only [go_sem, *]; try rfl))); (· (first | with_reducible assumption | rfl))) | ((with_reducible apply st1); (· (first | with_reducible assumption | (simp (disch := omega) only [go_sem, *]; try rfl))); (· simp); (· rfl)) | with_reducible refine ifT rfl ?_ | with_reducible refine ifF (not_not_intro rfl) ?_ | with_reducible refine ifT (by omega) ?_ | with_reducible refine ifF (by omega) ?_)
          exact hQ _ (SymQ.dead ((g4.bump 13 |>.trans hs.2).bump _) (by decide) hD.symm (hs.1.bump _))
        · refine ifF (by omega) ?_
          refine syms_j2 (k := k) (h4.bump 9) (by omega) hn20 hD (fun σ' hq => hQ σ' (SymQ.of (g4.bump 9) hq)) ?_
          intro d o' v' σ' q' hq' g' hD' h'
          unfold F_ref03_inflater_symbols_j1
          exact hk o' v' _ σ' q' (by omega) ((g4.bump 9).trans g') hD' h'
end
end Go.Vit
