/- The stream: small codes, runs, matches. -/
import Derived.Test.YtjddffdjbeemaaaV3W4
set_option linter.unusedVariables false
set_option linter.unusedSimpArgs false
set_option linter.unusedSimpArgs false
set_option maxRecDepth 20000
namespace Go.Vit
open Go.Proofs
section
variable {σ σ' : Mem} {o : List Nat} {x r p : Nat} {s : ByteArray} {most : Int} {out : List UInt8} {v : AV}
theorem ordr_lt {i : Nat} (h : i < 19) : ∃ j : Nat, ordr[i]? = some (j : Int) ∧ j < 19 := by
  have : ∀ i : Fin 19, ∃ j : Fin 19, ordr[i.val]? = some ((j.val : Nat) : Int) := by decide
  obtain ⟨j, hj⟩ := this ⟨i, h⟩
  exact ⟨j.val, hj, j.isLt⟩
theorem inflate_small {told : Nat} (h : Smv σ o x r s p most out v) (ht : told ≤ 19) : ACalls PG n_inflate_stream_small [.ptr x 0, .int .i64 (told : Nat)] σ fun w σ' => Grow o o σ σ' ∧ match rSmall (ordr.take told) (List.replicate 19 0) s p with
    | .ok (sm, q) => (chk sm ≠ 0 → ∃ c, w = .tup [c, .int .i64 (chk sm)]) ∧ (chk sm = 0 → lens sm ∧ sm.length = 19 ∧ ∃ t lo, w = .tup [.ptr t 0, .int .i64 0] ∧ TabB lo σ'.next sm σ' t ∧ σ.next ≤ lo) ∧ Smv σ' o x r s q most out v
    | .error e => ∃ c, w = .tup [c, .int .i64 e] := by
  refine ok_inflate_stream_small fun live => ?_
  unfold F_inflate_stream_small
  obtain ⟨lb, hlb⟩ : ∃ b, σ.next + 2 = b := ⟨_, rfl⟩
  rw [hlb]
  refine To.go ?_
  obtain ⟨σ1, h1⟩ : ∃ σ1, σ1 = (σ.bump 3).put lb (some (.rw (List.replicate 19 (.int .i64 0)))) := ⟨_, rfl⟩
  rw [← h1]
  have n1 : σ1.next = σ.next + 3 := by rw [h1]; rfl
  have e1 : σ1.get lb = some (.rw (ic (List.replicate 19 0))) := by rw [h1, gS']; rfl
  have s1 : σ.Same σ1 := by rw [h1]; repeat (with_reducible first | assumption | exact Mem.Only.refl _ _ | exact Mem.Same.refl _ | refine Mem.Only.bump ?_ _ | refine Mem.Only.put ?_ (by simp) _ | refine Mem.Only.put ?_ (.inr (by first | omega | (simp only [Mem.next_bump, Mem.next_put]; omega))) _ | refine Mem.Same.bump ?_ _ | refine Mem.Same.put ?_ (by first | omega | (simp only [Mem.next_bump, Mem.next_put]; omega)) _)
  clear h1
  obtain ⟨ob, hob⟩ : ∃ b, σ1.next = b := ⟨_, rfl⟩
  rw [hob]
  refine To.go ?_
  obtain ⟨σ2, h2⟩ : ∃ σ2, σ2 = (σ1.bump 5).put ob (some (.rw (ic ordr))) := ⟨_, rfl⟩
  have h2' := h2
  unfold ordr ic at h2
  rw [show List.map (fun n => AV.int IntKind.i64 n) [16, 17, 18, 0, 8, 7, 9, 6, 10, 5, 11, 4, 12, 3, 13, 2, 14, 1, 15] = [AV.int .i64 16, .int .i64 17, .int .i64 18, .int .i64 0, .int .i64 8, .int .i64 7, .int .i64 9, .int .i64 6, .int .i64 10, .int .i64 5, .int .i64 11, .int .i64 4, .int .i64 12, .int .i64 3, .int .i64 13, .int .i64 2, .int .i64 14, .int .i64 1, .int .i64 15] from rfl] at h2
  rw [← h2]
  clear h2
  have n2 : σ2.next = σ.next + 8 := by rw [h2']; simp only [Mem.next_put, Mem.next_bump]; omega
  have e2 : σ2.get lb = some (.rw (ic (List.replicate 19 0))) := by rw [h2', Mem.get_put_ne _ (by omega), Mem.get_bump]; exact e1
  have o2 : σ2.get ob = some (.rw (ic ordr)) := by rw [h2', gS']
  have s2 : σ.Same σ2 := by rw [h2']; repeat (with_reducible first | assumption | exact Mem.Only.refl _ _ | exact Mem.Same.refl _ | refine Mem.Only.bump ?_ _ | refine Mem.Only.put ?_ (by simp) _ | refine Mem.Only.put ?_ (.inr (by first | omega | (simp only [Mem.next_bump, Mem.next_put]; omega))) _ | refine Mem.Same.bump ?_ _ | refine Mem.Same.put ?_ (by first | omega | (simp only [Mem.next_bump, Mem.next_put]; omega)) _)
  clear h2' e1
  refine To.go ?_
  refine And.intro (by omega) ?_
  rw [Int.toNat_natCast]
  refine To.go ?_
  obtain ⟨D, hD⟩ : ∃ D, rSmall (ordr.take told) (List.replicate 19 0) s p = D := ⟨_, rfl⟩
  rw [hD]
  have ho : ∀ b ∈ o, b < σ.next := h.lt
  refine loop1 (fun (i : Nat) (y : Int) σ' => y = i ∧ i ≤ told ∧ ∃ acc q, rSmall ((ordr.take told).drop i) acc s q = D ∧ acc.length = 19 ∧ Smv σ' o x r s q most out v ∧ Mem.Only o σ σ' ∧ σ2.next ≤ σ'.next ∧ σ'.get lb = some (.rw (ic acc)) ∧ σ'.get ob = some (.rw (ic ordr))) (fun i => told - i) 0 ⟨rfl, by omega, List.replicate 19 0, p, hD, by simp, h.keep (fun b hb => s2.get b (ho b hb)) s2.next, s2.only _, Nat.le_refl _, e2, o2⟩ ?_
  clear e2 o2
  rintro i _ σ3 ⟨rfl, hi, acc, q, hd, hacc, h3, o3, n3, e3, b3⟩
  unfold F_inflate_stream_small_l1
  rw [hlb]
  have gr3 : Grow o o σ σ3 := ⟨o3, fun b hb => .inl hb, h3.lt⟩
  refine ifD (fun hlt => ?_) (fun hge => ?_)
  · have hil : i < told := by omega
    obtain ⟨j, hj, hj19⟩ := ordr_lt (i := i) (by omega)
    have hdr : (ordr.take told).drop i = (j : Int) :: (ordr.take told).drop (i + 1) := by
      have hl : i < (ordr.take told).length := by rw [List.length_take]; show i < min told 19; omega
      rw [List.drop_eq_getElem_cons hl]
      congr 1
      rw [List.getElem_take]
      rw [List.getElem?_eq_getElem (by show i < 19; omega)] at hj
      injection hj
    rw [hdr] at hd
    unfold rSmall at hd
    refine To.go ?_
    refine And.intro hil ?_
    refine To.go ?_
    refine ldrw b3 (v := .int .i64 (j : Nat)) ?_ ?_
    · have hl : i < ordr.length := by show i < 19; omega
      rw [ic_get hl]
      rw [List.getElem?_eq_getElem hl] at hj
      injection hj with hj
      rw [hj]
    refine To.go ?_
    refine To.go ?_
    refine ldrw h3.gx (v := .ptr r 0) rfl ?_
    refine callW_of (Smv.bits (n := 3) (h3.bump 14) (by omega)) ?_
    rintro w σ4 ⟨g4', hw4⟩
    have n34 := g4'.only.next
    simp only [Mem.next_bump] at n34
    have g4 := gr3.trans g4'.ob
    have lbo : lb ∉ o := fun hm => by have := ho lb hm; omega
    have obo : ob ∉ o := fun hm => by have := ho ob hm; omega
    have e4 : σ4.get lb = some (.rw (ic acc)) := (g4'.ob.only.get lb (by omega) lbo).trans e3
    have b4 : σ4.get ob = some (.rw (ic ordr)) := (g4'.ob.only.get ob (by omega) obo).trans b3
    cases e : rBits 3 s q with
    | error z =>
      rw [e] at hw4
      subst hw4
      have hz := Fr.ne (.bits 3) h3.le e
      rw [rBind_er e] at hd
      repeat (first | refine To.go ?_ | with_reducible refine And.intro (by first | omega | exact ⟨rfl, rfl⟩) ?_ | ((with_reducible apply opt); (· (first | with_reducible assumption | rfl))) | ((with_reducible apply ldrw); (· (first | with_reducible assumption | (simp (disch := omega) only [go_sem, *]; try rfl))); (· (first | with_reducible assumption | rfl))) | ((with_reducible apply ldro); (· (first | with_reducible assumption | (simp (disch := omega) only [go_sem, *]; try rfl))); (· (first | with_reducible assumption | rfl))) | ((with_reducible apply st1); (· (first | with_reducible assumption | (simp (disch := omega) only [go_sem, *]; try rfl))); (· simp); (· rfl)) | with_reducible refine ifT rfl ?_ | with_reducible refine ifF (not_not_intro rfl) ?_ | with_reducible refine ifT (by omega) ?_ | with_reducible refine ifF (by omega) ?_)
      subst hd
      exact ⟨g4.bump _, _, rfl⟩
    | ok y =>
      obtain ⟨a, q2⟩ := y
      rw [e] at hw4
      obtain ⟨rfl, h4⟩ := hw4
      rw [rBind_ok e, Int.toNat_natCast] at hd
      repeat (first | refine To.go ?_ | with_reducible refine And.intro (by first | omega | exact ⟨rfl, rfl⟩) ?_ | ((with_reducible apply opt); (· (first | with_reducible assumption | rfl))) | ((with_reducible apply ldrw); (· (first | with_reducible assumption | (simp (disch := omega) only [go_sem, *]; try rfl))); (· (first | with_reducible assumption | rfl))) | ((with_reducible apply ldro); (· (first | with_reducible assumption | (simp (disch := omega) only [go_sem, *]; try rfl))); (· (first | with_reducible assumption | rfl))) | ((with_reducible apply st1); (· (first | with_reducible assumption | (simp (disch := omega) only [go_sem, *]; try rfl))); (· simp); (· rfl)) | with_reducible refine ifT rfl ?_ | with_reducible refine ifF (not_not_intro rfl) ?_ | with_reducible refine ifT (by omega) ?_ | with_reducible refine ifF (by omega) ?_)
      rw [show 0 + j * 1 = j from by omega]
      refine st1 (l := ic acc) e4 (by rw [ic_len]; omega) rfl ?_
      rw [ic_set]
      refine iW_of (by omega) ?_
      refine again ⟨i + 1, ⟨by omega, by omega, acc.set j (a : Int), q2, hd, by rw [List.length_set]; exact hacc, h4.keep (fun b hb => ?_) ?_, ⟨?_, fun b hb hn => ?_⟩, ?_, by rw [Mem.get_bump, gS'], ?_⟩, by omega⟩
      · rw [Mem.get_bump, Mem.get_put_ne _ (by have := ho b hb; omega)]; rfl
      · simp only [Mem.next_bump, Mem.next_put]; omega
      · have := o3.next; simp only [Mem.next_bump, Mem.next_put]; omega
      · rw [Mem.get_bump, Mem.get_put_ne _ (by omega)]; exact g4.only.get b hb hn
      · simp only [Mem.next_bump, Mem.next_put]; omega
      · rw [Mem.get_bump, Mem.get_put_ne _ (by omega)]; exact b4
  · obtain rfl : i = told := by omega
    rw [List.drop_of_length_le (by rw [List.length_take]; omega)] at hd
    unfold rSmall rPure at hd
    subst hd
    refine To.go ?_
    refine callW_of (huff_Make (σ := σ3.bump 7) (L := acc) (.mk (b := lb) (by rw [hacc]) ⟨_, e3, rfl⟩ (by rw [ic_len, hacc])) (by omega)) ?_
    rintro _ σ4 ⟨pt, rfl, p1, p2, s4⟩
    have n4 := s4.next
    simp only [Mem.next_bump] at n4 p2
    replace s4 := s4.ob
    have h4 := h3.keep (fun b hb => s4.get b (h3.lt b hb)) s4.next
    repeat (first | refine To.go ?_ | with_reducible refine And.intro (by first | omega | exact ⟨rfl, rfl⟩) ?_ | ((with_reducible apply opt); (· (first | with_reducible assumption | rfl))) | ((with_reducible apply ldrw); (· (first | with_reducible assumption | (simp (disch := omega) only [go_sem, *]; try rfl))); (· (first | with_reducible assumption | rfl))) | ((with_reducible apply ldro); (· (first | with_reducible assumption | (simp (disch := omega) only [go_sem, *]; try rfl))); (· (first | with_reducible assumption | rfl))) | ((with_reducible apply st1); (· (first | with_reducible assumption | (simp (disch := omega) only [go_sem, *]; try rfl))); (· simp); (· rfl)) | with_reducible refine ifT rfl ?_ | with_reducible refine ifF (not_not_intro rfl) ?_ | with_reducible refine ifT (by omega) ?_ | with_reducible refine ifF (by omega) ?_)
    refine ⟨gr3.then s4, fun hc => ⟨_, rfl⟩, fun hc => ?_, h4⟩
    obtain ⟨hL, t, rfl, ht'⟩ := p2 hc
    refine ⟨hL, hacc, t, _, by rw [hc], ht'.b, ?_⟩
    have := o3.next
    omega
theorem inflate_run {lo hi t : Nat} {L l : List Int} {a : AV} (h : Smv σ o x r s p most out v) (hL : lens L) (hL19 : L.length = 19) (ht : TabB lo hi L σ t) (hhi : hi ≤ σ.next) (hr : r < lo ∨ hi ≤ r) (ha : RdO 1 σ a (ic l) l.length) (hao : ∀ b ∈ blkOf a, b < σ.next ∧ b ∉ o) (hl : l.length ≤ 2 ^ 40) :
    ACalls PG n_inflate_stream_run [.ptr x 0, .ptr t 0, a] σ fun w σ' => Grow o o σ σ' ∧ match rRun L l s p with
    | .ok (y, q) => w = .tup [.int .i64 y.1, .int .i64 (y.2 : Nat), .int .i64 0] ∧ 1 ≤ y.2 ∧ y.2 ≤ 138 ∧ Smv σ' o x r s q most out v
    | .error e => ∃ c n, w = .tup [.int .i64 c, .int .i64 n, .int .i64 e] := by
  refine ok_inflate_stream_run fun live => ?_
  unfold F_inflate_stream_run
  refine To.go ?_
  refine ldrw h.gx (v := .ptr r 0) rfl ?_
  refine callW_of (Smv.next (h.bump 14) hL (ht.keep fun _ _ _ => rfl) (by simp only [Mem.next_bump]; omega) hr) ?_
  rintro w σ1 ⟨g1, _, hw⟩
  have n1 := g1.only.next
  simp only [Mem.next_bump] at n1
  replace g1 := g1.ob
  unfold rRun
  cases e : rNext L s p with
  | error z =>
    rw [e] at hw
    obtain ⟨c, rfl⟩ := hw
    have hz := Fr.ne (.next L) h.le e
    rw [rBind_er e]
    repeat (first | refine To.go ?_ | with_reducible refine And.intro (by first | omega | exact ⟨rfl, rfl⟩) ?_ | ((with_reducible apply opt); (· (first | with_reducible assumption | rfl))) | ((with_reducible apply ldrw); (· (first | with_reducible assumption | (simp (disch := omega) only [go_sem, *]; try rfl))); (· (first | with_reducible assumption | rfl))) | ((with_reducible apply ldro); (· (first | with_reducible assumption | (simp (disch := omega) only [go_sem, *]; try rfl))); (· (first | with_reducible assumption | rfl))) | ((with_reducible apply st1); (· (first | with_reducible assumption | (simp (disch := omega) only [go_sem, *]; try rfl))); (· simp); (· rfl)) | with_reducible refine ifT rfl ?_ | with_reducible refine ifF (not_not_intro rfl) ?_ | with_reducible refine ifT (by omega) ?_ | with_reducible refine ifF (by omega) ?_)
    exact ⟨g1.bump _, _, _, rfl⟩
  | ok y =>
    obtain ⟨c, q⟩ := y
    rw [e] at hw
    obtain ⟨rfl, h1⟩ := hw
    rw [rBind_ok e]
    obtain ⟨i, rfl, hi19⟩ := next_lt e
    rw [hL19] at hi19
    repeat (first | refine To.go ?_ | with_reducible refine And.intro (by first | omega | exact ⟨rfl, rfl⟩) ?_ | ((with_reducible apply opt); (· (first | with_reducible assumption | rfl))) | ((with_reducible apply ldrw); (· (first | with_reducible assumption | (simp (disch := omega) only [go_sem, *]; try rfl))); (· (first | with_reducible assumption | rfl))) | ((with_reducible apply ldro); (· (first | with_reducible assumption | (simp (disch := omega) only [go_sem, *]; try rfl))); (· (first | with_reducible assumption | rfl))) | ((with_reducible apply st1); (· (first | with_reducible assumption | (simp (disch := omega) only [go_sem, *]; try rfl))); (· simp); (· rfl)) | with_reducible refine ifT rfl ?_ | with_reducible refine ifF (not_not_intro rfl) ?_ | with_reducible refine ifT (by omega) ?_ | with_reducible refine ifF (by omega) ?_)
    refine ifD (fun hlt => ?_) (fun hge => ?_)
    · rw [if_pos hlt]
      exact ⟨g1.bump _, rfl, Nat.le_refl 1, show 1 ≤ 138 by decide, h1.bump _⟩
    rw [if_neg hge]
    have ha1 := ha.keep (σ' := σ1) fun b hb => g1.only.get b (hao b hb).1 (hao b hb).2
    rcases (by omega : i = 16 ∨ i = 17 ∨ i = 18) with rfl | rfl | rfl
    · repeat (first | refine To.go ?_ | with_reducible refine And.intro (by first | omega | exact ⟨rfl, rfl⟩) ?_ | ((with_reducible apply opt); (· (first | with_reducible assumption | rfl))) | ((with_reducible apply ldrw); (· (first | with_reducible assumption | (simp (disch := omega) only [go_sem, *]; try rfl))); (· (first | with_reducible assumption | rfl))) | ((with_reducible apply ldro); (· (first | with_reducible assumption | (simp (disch := omega) only [go_sem, *]; try rfl))); (· (first | with_reducible assumption | rfl))) | ((with_reducible apply st1); (· (first | with_reducible assumption | (simp (disch := omega) only [go_sem, *]; try rfl))); (· simp); (· rfl)) | with_reducible refine ifT rfl ?_ | with_reducible refine ifF (not_not_intro rfl) ?_ | with_reducible refine ifT (by omega) ?_ | with_reducible refine ifF (by omega) ?_)
      refine ha1.len ?_
      by_cases h0 : l.length = 0
      · rw [if_pos ⟨rfl, h0⟩]
        refine ifD (fun _ => ?_) (fun h => absurd (by omega) h)
        exact ⟨g1.bump _, _, _, rfl⟩
      rw [if_neg fun h => h0 h.2]
      refine ifD (fun h => absurd (by omega) h0) (fun _ => ?_)
      repeat (first | refine To.go ?_ | with_reducible refine And.intro (by first | omega | exact ⟨rfl, rfl⟩) ?_ | ((with_reducible apply opt); (· (first | with_reducible assumption | rfl))) | ((with_reducible apply ldrw); (· (first | with_reducible assumption | (simp (disch := omega) only [go_sem, *]; try rfl))); (· (first | with_reducible assumption | rfl))) | ((with_reducible apply ldro); (· (first | with_reducible assumption | (simp (disch := omega) only [go_sem, *]; try rfl))); (· (first | with_reducible assumption | rfl))) | ((with_reducible apply st1); (· (first | with_reducible assumption | (simp (disch := omega) only [go_sem, *]; try rfl))); (· simp); (· rfl)) | with_reducible refine ifT rfl ?_ | with_reducible refine ifF (not_not_intro rfl) ?_ | with_reducible refine ifT (by omega) ?_ | with_reducible refine ifF (by omega) ?_)
      refine ldrw h1.gx (v := .ptr r 0) rfl ?_
      refine callW_of (Smv.bits (n := 2) (h1.bump 29) (by omega)) ?_
      rintro w σ2 ⟨g2, hw⟩
      have n2 := g2.only.next
      simp only [Mem.next_bump] at n2
      replace g2 := g2.ob
      have ha2 := ha1.keep (σ' := σ2) fun b hb => g2.only.get b (by have := (hao b hb).1; omega) (hao b hb).2
      have h12 := g1.trans g2
      rw [if_pos (show (((16 : Nat) : Int)) = 16 by decide)]
      clear e
      have hl1 : l.length - 1 < l.length := by omega
      have hgd : l.getD (l.length - 1) 0 = l[l.length - 1] := getD_of hl1
      cases e : rBits 2 s q with
      | error z =>
        rw [e] at hw
        subst hw
        have hz := Fr.ne (.bits 2) h1.le e
        have hz3 : z = 3 := by unfold rBits at e; split at e; injection e with e; exact e.symm; exact absurd e (by simp)
        rw [rBind_er e]
        repeat (first | refine To.go ?_ | with_reducible refine And.intro (by first | omega | exact ⟨rfl, rfl⟩) ?_ | ((with_reducible apply opt); (· (first | with_reducible assumption | rfl))) | ((with_reducible apply ldrw); (· (first | with_reducible assumption | (simp (disch := omega) only [go_sem, *]; try rfl))); (· (first | with_reducible assumption | rfl))) | ((with_reducible apply ldro); (· (first | with_reducible assumption | (simp (disch := omega) only [go_sem, *]; try rfl))); (· (first | with_reducible assumption | rfl))) | ((with_reducible apply st1); (· (first | with_reducible assumption | (simp (disch := omega) only [go_sem, *]; try rfl))); (· simp); (· rfl)) | with_reducible refine ifT rfl ?_ | with_reducible refine ifF (not_not_intro rfl) ?_ | with_reducible refine ifT (by omega) ?_ | with_reducible refine ifF (by omega) ?_)
        refine ha2.len ?_
        obtain ⟨ba, baz, ca, rfl, hget⟩ := ha2.at hl1
        refine iW_of (by omega) ?_
        rw [show ((l.length : Int) - 1) = ((l.length - 1 : Nat) : Int) from by omega]
        refine To.go ?_
        refine And.intro hl1 ?_
        refine To.go ?_
        refine hget _ ?_
        refine To.go ?_
        exact ⟨h12.bump _, _, _, rfl⟩
      | ok y =>
        obtain ⟨a, q2⟩ := y
        rw [e] at hw
        obtain ⟨rfl, h2⟩ := hw
        rw [rBind_ok e]
        have hal := bits_lt e
        repeat (first | refine To.go ?_ | with_reducible refine And.intro (by first | omega | exact ⟨rfl, rfl⟩) ?_ | ((with_reducible apply opt); (· (first | with_reducible assumption | rfl))) | ((with_reducible apply ldrw); (· (first | with_reducible assumption | (simp (disch := omega) only [go_sem, *]; try rfl))); (· (first | with_reducible assumption | rfl))) | ((with_reducible apply ldro); (· (first | with_reducible assumption | (simp (disch := omega) only [go_sem, *]; try rfl))); (· (first | with_reducible assumption | rfl))) | ((with_reducible apply st1); (· (first | with_reducible assumption | (simp (disch := omega) only [go_sem, *]; try rfl))); (· simp); (· rfl)) | with_reducible refine ifT rfl ?_ | with_reducible refine ifF (not_not_intro rfl) ?_ | with_reducible refine ifT (by omega) ?_ | with_reducible refine ifF (by omega) ?_)
        refine ha2.len ?_
        obtain ⟨ba, baz, ca, rfl, hget⟩ := ha2.at hl1
        refine iW_of (by omega) ?_
        rw [show ((l.length : Int) - 1) = ((l.length - 1 : Nat) : Int) from by omega]
        refine To.go ?_
        refine And.intro hl1 ?_
        refine To.go ?_
        refine hget _ ?_
        refine To.go ?_
        rw [if_pos (show (((16 : Nat) : Int)) = 16 by decide), hgd, if_neg (by decide)]
        exact ⟨h12.bump _, rfl, by dsimp only; omega, by dsimp only; omega, h2.bump _⟩
    · repeat (first | refine To.go ?_ | with_reducible refine And.intro (by first | omega | exact ⟨rfl, rfl⟩) ?_ | ((with_reducible apply opt); (· (first | with_reducible assumption | rfl))) | ((with_reducible apply ldrw); (· (first | with_reducible assumption | (simp (disch := omega) only [go_sem, *]; try rfl))); (· (first | with_reducible assumption | rfl))) | ((with_reducible apply ldro); (· (first | with_reducible assumption | (simp (disch := omega) only [go_sem, *]; try rfl))); (· (first | with_reducible assumption | rfl))) | ((with_reducible apply st1); (· (first | with_reducible assumption | (simp (disch := omega) only [go_sem, *]; try rfl))); (· simp); (· rfl)) | with_reducible refine ifT rfl ?_ | with_reducible refine ifF (not_not_intro rfl) ?_ | with_reducible refine ifT (by omega) ?_ | with_reducible refine ifF (by omega) ?_)
      refine ldrw h1.gx (v := .ptr r 0) rfl ?_
      refine callW_of (Smv.bits (n := 3) (h1.bump 29) (by omega)) ?_
      rintro w σ2 ⟨g2, hw⟩
      replace g2 := g2.ob
      have h12 := g1.trans g2
      rw [if_neg (fun h => absurd h.1 (by decide)), if_neg (by decide), if_pos (show (((17 : Nat) : Int)) = 17 by decide)]
      clear e
      cases e : rBits 3 s q with
      | error z =>
        rw [e] at hw
        subst hw
        have hz := Fr.ne (.bits 3) h1.le e
        have hz3 : z = 3 := by unfold rBits at e; split at e; injection e with e; exact e.symm; exact absurd e (by simp)
        rw [rBind_er e]
        repeat (first | refine To.go ?_ | with_reducible refine And.intro (by first | omega | exact ⟨rfl, rfl⟩) ?_ | ((with_reducible apply opt); (· (first | with_reducible assumption | rfl))) | ((with_reducible apply ldrw); (· (first | with_reducible assumption | (simp (disch := omega) only [go_sem, *]; try rfl))); (· (first | with_reducible assumption | rfl))) | ((with_reducible apply ldro); (· (first | with_reducible assumption | (simp (disch := omega) only [go_sem, *]; try rfl))); (· (first | with_reducible assumption | rfl))) | ((with_reducible apply st1); (· (first | with_reducible assumption | (simp (disch := omega) only [go_sem, *]; try rfl))); (· simp); (· rfl)) | with_reducible refine ifT rfl ?_ | with_reducible refine ifF (not_not_intro rfl) ?_ | with_reducible refine ifT (by omega) ?_ | with_reducible refine ifF (by omega) ?_)
        exact ⟨h12.bump _, _, _, rfl⟩
      | ok y =>
        obtain ⟨a, q2⟩ := y
        rw [e] at hw
        obtain ⟨rfl, h2⟩ := hw
        rw [rBind_ok e]
        have hal := bits_lt e
        repeat (first | refine To.go ?_ | with_reducible refine And.intro (by first | omega | exact ⟨rfl, rfl⟩) ?_ | ((with_reducible apply opt); (· (first | with_reducible assumption | rfl))) | ((with_reducible apply ldrw); (· (first | with_reducible assumption | (simp (disch := omega) only [go_sem, *]; try rfl))); (· (first | with_reducible assumption | rfl))) | ((with_reducible apply ldro); (· (first | with_reducible assumption | (simp (disch := omega) only [go_sem, *]; try rfl))); (· (first | with_reducible assumption | rfl))) | ((with_reducible apply st1); (· (first | with_reducible assumption | (simp (disch := omega) only [go_sem, *]; try rfl))); (· simp); (· rfl)) | with_reducible refine ifT rfl ?_ | with_reducible refine ifF (not_not_intro rfl) ?_ | with_reducible refine ifT (by omega) ?_ | with_reducible refine ifF (by omega) ?_)
        rw [if_neg (by decide), if_neg (by decide)]
        exact ⟨h12.bump _, rfl, by dsimp only; omega, by dsimp only; omega, h2.bump _⟩
    · repeat (first | refine To.go ?_ | with_reducible refine And.intro (by first | omega | exact ⟨rfl, rfl⟩) ?_ | ((with_reducible apply opt); (· (first | with_reducible assumption | rfl))) | ((with_reducible apply ldrw); (· (first | with_reducible assumption | (simp (disch := omega) only [go_sem, *]; try rfl))); (· (first | with_reducible assumption | rfl))) | ((with_reducible apply ldro); (· (first | with_reducible assumption | (simp (disch := omega) only [go_sem, *]; try rfl))); (· (first | with_reducible assumption | rfl))) | ((with_reducible apply st1); (· (first | with_reducible assumption | (simp (disch := omega) only [go_sem, *]; try rfl))); (· simp); (· rfl)) | with_reducible refine ifT rfl ?_ | with_reducible refine ifF (not_not_intro rfl) ?_ | with_reducible refine ifT (by omega) ?_ | with_reducible refine ifF (by omega) ?_)
      refine ldrw h1.gx (v := .ptr r 0) rfl ?_
      refine callW_of (Smv.bits (n := 7) (h1.bump 29) (by omega)) ?_
      rintro w σ2 ⟨g2, hw⟩
      replace g2 := g2.ob
      have h12 := g1.trans g2
      rw [if_neg (fun h => absurd h.1 (by decide)), if_neg (by decide), if_neg (by decide)]
      clear e
      cases e : rBits 7 s q with
      | error z =>
        rw [e] at hw
        subst hw
        have hz := Fr.ne (.bits 7) h1.le e
        have hz3 : z = 3 := by unfold rBits at e; split at e; injection e with e; exact e.symm; exact absurd e (by simp)
        rw [rBind_er e]
        repeat (first | refine To.go ?_ | with_reducible refine And.intro (by first | omega | exact ⟨rfl, rfl⟩) ?_ | ((with_reducible apply opt); (· (first | with_reducible assumption | rfl))) | ((with_reducible apply ldrw); (· (first | with_reducible assumption | (simp (disch := omega) only [go_sem, *]; try rfl))); (· (first | with_reducible assumption | rfl))) | ((with_reducible apply ldro); (· (first | with_reducible assumption | (simp (disch := omega) only [go_sem, *]; try rfl))); (· (first | with_reducible assumption | rfl))) | ((with_reducible apply st1); (· (first | with_reducible assumption | (simp (disch := omega) only [go_sem, *]; try rfl))); (· simp); (· rfl)) | with_reducible refine ifT rfl ?_ | with_reducible refine ifF (not_not_intro rfl) ?_ | with_reducible refine ifT (by omega) ?_ | with_reducible refine ifF (by omega) ?_)
        exact ⟨h12.bump _, _, _, rfl⟩
      | ok y =>
        obtain ⟨a, q2⟩ := y
        rw [e] at hw
        obtain ⟨rfl, h2⟩ := hw
        rw [rBind_ok e]
        have hal := bits_lt e
        repeat (first | refine To.go ?_ | with_reducible refine And.intro (by first | omega | exact ⟨rfl, rfl⟩) ?_ | ((with_reducible apply opt); (· (first | with_reducible assumption | rfl))) | ((with_reducible apply ldrw); (· (first | with_reducible assumption | (simp (disch := omega) only [go_sem, *]; try rfl))); (· (first | with_reducible assumption | rfl))) | ((with_reducible apply ldro); (· (first | with_reducible assumption | (simp (disch := omega) only [go_sem, *]; try rfl))); (· (first | with_reducible assumption | rfl))) | ((with_reducible apply st1); (· (first | with_reducible assumption | (simp (disch := omega) only [go_sem, *]; try rfl))); (· simp); (· rfl)) | with_reducible refine ifT rfl ?_ | with_reducible refine ifF (not_not_intro rfl) ?_ | with_reducible refine ifT (by omega) ?_ | with_reducible refine ifF (by omega) ?_)
        rw [if_neg (by decide), if_pos (show (((18 : Nat) : Int)) = 18 by decide)]
        exact ⟨h12.bump _, rfl, by dsimp only; omega, by dsimp only; omega, h2.bump _⟩
end
end Go.Vit
