/- The laws LzExpands, LzBack and LzLong. -/
import Derived.Test.YtjhmjjbllaodlaaVL6
set_option linter.unusedVariables false
set_option linter.unusedSimpArgs false
set_option linter.unusedSimpArgs false
set_option maxRecDepth 20000
namespace Go.Vit
open Go.Proofs
def tokOk (t : Tok) : Prop := True
theorem tok_decode {σ : Mem} (c : List AV) (h : Wt PG σ 34 c) : ∃ t : Tok, c = tokC t ∧ tokOk t := by
  obtain ⟨hl, hf⟩ := h.fields (show fieldsOf PG 34 = (3, 0) :: [(3, 1), (3, 2)] by kernel_rfl)
  rw [show PG.cellsOf 34 = 3 by kernel_rfl] at hl
  match c, hl with
  | [x, y, z], _ =>
    have h1 := hf (3, 0) (by simp)
    have h2 := hf (3, 1) (by simp)
    have h3 := hf (3, 2) (by simp)
    rw [show PG.cellsOf 3 = 1 by kernel_rfl] at h1 h2 h3
    obtain ⟨b, hb, wb⟩ := h1.int_inv (k := .i64) (by kernel_rfl)
    obtain ⟨n, hn, wn⟩ := h2.int_inv (k := .i64) (by kernel_rfl)
    obtain ⟨v, hv, wv⟩ := h3.int_inv (k := .i64) (by kernel_rfl)
    simp at hb hn hv
    subst hb hn hv
    exact ⟨(b, n, v), rfl, trivial⟩
theorem args_toks {σ : Mem} {l : List AV} (hw : Wts PG σ [23] l) : ∃ a ts, l = [a] ∧ RdS 3 σ a (tkl ts) ts.length := by
  obtain ⟨a, r, rfl, hs, h⟩ := hw.slice (e := 34) (by kernel_rfl)
  obtain rfl := hs.nil_inv
  rcases h with rfl | ⟨b, n, l, rfl, hg, _, hl, he⟩
  · exact ⟨_, [], rfl, .inl ⟨rfl, rfl, rfl⟩⟩
  · rw [show PG.cellsOf 34 = 3 by kernel_rfl] at hl he
    obtain ⟨os, h1, h2, h3⟩ := slice_decode (enc := tokC) (good := tokOk) tok_decode hl he
    exact ⟨_, os, rfl, .inr ⟨b, _, by rw [h1], ⟨_, hg, by rw [h2]; rfl⟩, by rw [tkl_len]⟩⟩
theorem src_rd {σ : Mem} {k n : Nat} {v : AV} {cs : List AV} (h : RdS k σ v cs n) (K : Nat → List AV → Prop) (hk : K n cs) : srcW σ k v K := by
  rcases h with ⟨rfl, rfl, rfl⟩ | ⟨b, c, rfl, ⟨q, h1, h2⟩, h3⟩
  · exact hk
  · refine opt (a := σ.cells b 0 (n * k)) (v := cs) ?_ hk
    unfold Mem.cells
    rw [h1, Option.bind_some, h2, Option.bind_some, if_pos (by omega), List.drop_zero, ← h3, List.take_length]
/-- Cells are put behind a new list that has none. -/
theorem ap_fresh {k bytes id nb n : Nat} {σ : Mem} {x : AV} {cs : List AV} {K : AV → Mem → Prop} (hb : σ.get nb = some (.rw [])) (hx : RdS k σ x cs n) (h1 : cs.all AV.one = true) (hr : n * bytes ≤ 140737488355328 ∧ n ≤ 9223372036854775806)
    (h0 : n = 0 → K (.slice nb 0 0 (.ex 0)) σ) (hk : n ≠ 0 → K (.slice id 0 n (.op k)) (σ.put id (some (.rw cs)))) : apW k bytes id σ (.slice nb 0 0 (.ex 0)) x K := by
  unfold apW
  refine src_rd hx _ ⟨h1, h0, fun hn => ⟨fun h => absurd h (by omega), fun _ => ⟨by rw [Nat.zero_add]; exact hr, ?_⟩⟩⟩
  refine opt (v := []) ?_ ⟨rfl, ?_⟩
  · rw [Mem.cells_of hb]; simp
  · rw [Nat.zero_add]; exact hk hn
theorem law04_LzExpands (σ : Mem) (l : List AV) (_ : σ.Ro) (hw : Wts PG σ Try.f4.params.toList l) : ACalls PG n_law04_LzExpands l σ fun v _ => isTrue v := by
  obtain ⟨a, ts, rfl, ha⟩ := args_toks (show Wts PG σ [23] l by rw [Try.params4] at hw; exact hw)
  clear hw
  refine ok_law04_LzExpands fun live => ?_
  unfold F_law04_LzExpands
  have hla := ha.lt live
  refine ha.len ?_
  refine ifD (fun h => ?_) (fun h => ?_)
  · refine callW_of (law04_awake _) ?_
    rintro v σ1 ⟨rfl, rfl⟩
    repeat (first | refine To.go ?_ | with_reducible refine And.intro (by first | omega | exact ⟨rfl, rfl⟩) ?_ | ((with_reducible apply opt); (· (first | with_reducible assumption | rfl))) | ((with_reducible apply ldrw); (· (first | with_reducible assumption | (simp (disch := omega) only [go_sem, *]; try rfl))); (· (first | with_reducible assumption | rfl))) | ((with_reducible apply ldro); (· (first | with_reducible assumption | (simp (disch := omega) only [go_sem, *]; try rfl))); (· (first | with_reducible assumption | rfl))) | ((with_reducible apply st1); (· (first | with_reducible assumption | (simp (disch := omega) only [go_sem, *]; try rfl))); (· simp); (· rfl)) | with_reducible refine ifT rfl ?_ | with_reducible refine ifF (not_not_intro rfl) ?_ | with_reducible refine ifT (by omega) ?_ | with_reducible refine ifF (by omega) ?_)
    exact rfl
  · repeat (first | refine To.go ?_ | with_reducible refine And.intro (by first | omega | exact ⟨rfl, rfl⟩) ?_ | ((with_reducible apply opt); (· (first | with_reducible assumption | rfl))) | ((with_reducible apply ldrw); (· (first | with_reducible assumption | (simp (disch := omega) only [go_sem, *]; try rfl))); (· (first | with_reducible assumption | rfl))) | ((with_reducible apply ldro); (· (first | with_reducible assumption | (simp (disch := omega) only [go_sem, *]; try rfl))); (· (first | with_reducible assumption | rfl))) | ((with_reducible apply st1); (· (first | with_reducible assumption | (simp (disch := omega) only [go_sem, *]; try rfl))); (· simp); (· rfl)) | with_reducible refine ifT rfl ?_ | with_reducible refine ifF (not_not_intro rfl) ?_ | with_reducible refine ifT (by omega) ?_ | with_reducible refine ifF (by omega) ?_)
    let K : AV → Mem → Prop := fun v5 σ6 => RdS 3 σ6 v5 (tkl ts) ts.length ∧ (∀ b ∈ blkOf v5, b < σ6.next) ∧ σ.Same σ6
    have key : ∀ v5 σ6, K v5 σ6 → callW PG n_lz_Expand [v5] (σ6.bump 7) fun v7 σ8 =>
        tpS v7 0 fun v9 => tpI v7 1 fun v10 => callW PG n_ref04_Expand [a] (σ8.bump 7) fun v11 σ12 =>
        tpS v11 0 fun v13 => tpI v11 1 fun v14 => ifB (decide (v9 = v13)) (ifB (decide (v10 = v14)) (
        callW PG n_law04_tokens [v5, a] (σ12.bump 17) fun v15 σ16 => castB v15 fun v17 => ifB v17 (
        callW PG n_law04_awake [] σ16 fun v18 σ19 => castB v18 fun v20 => isTrue (.bool v20)) (isTrue (.bool false))) (isTrue (.bool false))) (isTrue (.bool false)) := by
      rintro v5 σ6 ⟨h5, hlt5, s6⟩
      refine callW_of (lz_Expand (os := ts) (h5.keep fun b _ => rfl) (by omega)) ?_
      rintro _ σ8 ⟨rfl, s8⟩
      replace s8 := s8.ob
      repeat (first | refine To.go ?_ | with_reducible refine And.intro (by first | omega | exact ⟨rfl, rfl⟩) ?_ | ((with_reducible apply opt); (· (first | with_reducible assumption | rfl))) | ((with_reducible apply ldrw); (· (first | with_reducible assumption | (simp (disch := omega) only [go_sem, *]; try rfl))); (· (first | with_reducible assumption | rfl))) | ((with_reducible apply ldro); (· (first | with_reducible assumption | (simp (disch := omega) only [go_sem, *]; try rfl))); (· (first | with_reducible assumption | rfl))) | ((with_reducible apply st1); (· (first | with_reducible assumption | (simp (disch := omega) only [go_sem, *]; try rfl))); (· simp); (· rfl)) | with_reducible refine ifT rfl ?_ | with_reducible refine ifF (not_not_intro rfl) ?_ | with_reducible refine ifT (by omega) ?_ | with_reducible refine ifF (by omega) ?_)
      refine callW_of (ref04_Expand (os := ts) (ha.keep fun b hb => (s6.trans s8).get b (hla b hb)) (by omega)) ?_
      rintro _ σ12 ⟨rfl, s12⟩
      replace s12 := s12.ob
      repeat (first | refine To.go ?_ | with_reducible refine And.intro (by first | omega | exact ⟨rfl, rfl⟩) ?_ | ((with_reducible apply opt); (· (first | with_reducible assumption | rfl))) | ((with_reducible apply ldrw); (· (first | with_reducible assumption | (simp (disch := omega) only [go_sem, *]; try rfl))); (· (first | with_reducible assumption | rfl))) | ((with_reducible apply ldro); (· (first | with_reducible assumption | (simp (disch := omega) only [go_sem, *]; try rfl))); (· (first | with_reducible assumption | rfl))) | ((with_reducible apply st1); (· (first | with_reducible assumption | (simp (disch := omega) only [go_sem, *]; try rfl))); (· simp); (· rfl)) | with_reducible refine ifT rfl ?_ | with_reducible refine ifF (not_not_intro rfl) ?_ | with_reducible refine ifT (by omega) ?_ | with_reducible refine ifF (by omega) ?_)
      have s812 := s8.trans s12
      have h5' : RdS 3 (σ12.bump 17) v5 (tkl ts) ts.length := h5.keep fun b hb => s812.get b (hlt5 b hb)
      refine callW_of (law04_tokens (l := ts) (m := ts) h5' (ha.keep fun b hb => (s6.trans s812).get b (hla b hb)) (by omega)) ?_
      rintro _ σ16 ⟨rfl, s16⟩
      rw [decide_eq_true rfl]
      repeat (first | refine To.go ?_ | with_reducible refine And.intro (by first | omega | exact ⟨rfl, rfl⟩) ?_ | ((with_reducible apply opt); (· (first | with_reducible assumption | rfl))) | ((with_reducible apply ldrw); (· (first | with_reducible assumption | (simp (disch := omega) only [go_sem, *]; try rfl))); (· (first | with_reducible assumption | rfl))) | ((with_reducible apply ldro); (· (first | with_reducible assumption | (simp (disch := omega) only [go_sem, *]; try rfl))); (· (first | with_reducible assumption | rfl))) | ((with_reducible apply st1); (· (first | with_reducible assumption | (simp (disch := omega) only [go_sem, *]; try rfl))); (· simp); (· rfl)) | with_reducible refine ifT rfl ?_ | with_reducible refine ifF (not_not_intro rfl) ?_ | with_reducible refine ifT (by omega) ?_ | with_reducible refine ifF (by omega) ?_)
      refine callW_of (law04_awake _) ?_
      rintro v σ1 ⟨rfl, rfl⟩
      repeat (first | refine To.go ?_ | with_reducible refine And.intro (by first | omega | exact ⟨rfl, rfl⟩) ?_ | ((with_reducible apply opt); (· (first | with_reducible assumption | rfl))) | ((with_reducible apply ldrw); (· (first | with_reducible assumption | (simp (disch := omega) only [go_sem, *]; try rfl))); (· (first | with_reducible assumption | rfl))) | ((with_reducible apply ldro); (· (first | with_reducible assumption | (simp (disch := omega) only [go_sem, *]; try rfl))); (· (first | with_reducible assumption | rfl))) | ((with_reducible apply st1); (· (first | with_reducible assumption | (simp (disch := omega) only [go_sem, *]; try rfl))); (· simp); (· rfl)) | with_reducible refine ifT rfl ?_ | with_reducible refine ifF (not_not_intro rfl) ?_ | with_reducible refine ifT (by omega) ?_ | with_reducible refine ifF (by omega) ?_)
      exact rfl
    refine ap_fresh gS' (ha.keep fun b hb => ?_) (tokC_one _) (by omega) (fun h0 => key _ _ ⟨?_, ?_, ?_⟩) (fun h0 => key _ _ ⟨?_, ?_, ?_⟩)
    · have := hla b hb
      rw [Mem.get_put_ne _ (by omega)]; rfl
    · rw [List.length_eq_zero_iff.1 h0]
      exact .inr ⟨_, _, rfl, ⟨_, gS', rfl⟩, rfl⟩
    · intro b hb; simp [blkOf] at hb; simp only [Mem.next_put, Mem.next_bump]; omega
    · repeat (with_reducible first | assumption | exact Mem.Only.refl _ _ | exact Mem.Same.refl _ | refine Mem.Only.bump ?_ _ | refine Mem.Only.put ?_ (by simp) _ | refine Mem.Only.put ?_ (.inr (by first | omega | (simp only [Mem.next_bump, Mem.next_put]; omega))) _ | refine Mem.Same.bump ?_ _ | refine Mem.Same.put ?_ (by first | omega | (simp only [Mem.next_bump, Mem.next_put]; omega)) _)
    · exact .inr ⟨_, _, rfl, ⟨_, gS', rfl⟩, by rw [tkl_len]⟩
    · intro b hb; simp [blkOf] at hb; simp only [Mem.next_put, Mem.next_bump]; omega
    · repeat (with_reducible first | assumption | exact Mem.Only.refl _ _ | exact Mem.Same.refl _ | refine Mem.Only.bump ?_ _ | refine Mem.Only.put ?_ (by simp) _ | refine Mem.Only.put ?_ (.inr (by first | omega | (simp only [Mem.next_bump, Mem.next_put]; omega))) _ | refine Mem.Same.bump ?_ _ | refine Mem.Same.put ?_ (by first | omega | (simp only [Mem.next_bump, Mem.next_put]; omega)) _)
theorem law04_LzBack (σ : Mem) (l : List AV) (_ : σ.Ro) (hw : Wts PG σ Try.f5.params.toList l) : ACalls PG n_law04_LzBack l σ fun v _ => isTrue v := by
  obtain ⟨s, rfl, hs⟩ := args_s (show Wts PG σ [9] l by rw [Try.params5] at hw; exact hw)
  clear hw
  refine ok_law04_LzBack fun live => ?_
  unfold F_law04_LzBack
  refine ifD (fun h => ?_) (fun h => ?_)
  · refine callW_of (law04_awake _) ?_
    rintro v σ1 ⟨rfl, rfl⟩
    repeat (first | refine To.go ?_ | with_reducible refine And.intro (by first | omega | exact ⟨rfl, rfl⟩) ?_ | ((with_reducible apply opt); (· (first | with_reducible assumption | rfl))) | ((with_reducible apply ldrw); (· (first | with_reducible assumption | (simp (disch := omega) only [go_sem, *]; try rfl))); (· (first | with_reducible assumption | rfl))) | ((with_reducible apply ldro); (· (first | with_reducible assumption | (simp (disch := omega) only [go_sem, *]; try rfl))); (· (first | with_reducible assumption | rfl))) | ((with_reducible apply st1); (· (first | with_reducible assumption | (simp (disch := omega) only [go_sem, *]; try rfl))); (· simp); (· rfl)) | with_reducible refine ifT rfl ?_ | with_reducible refine ifF (not_not_intro rfl) ?_ | with_reducible refine ifT (by omega) ?_ | with_reducible refine ifF (by omega) ?_)
    exact rfl
  · refine callW_of (lz_Tokens s (by omega) _) ?_
    rintro v σ1 ⟨k, hk, own, s1⟩
    have hkl := done_len hk
    have hl := toks_len s k
    have he := exp_toks hk
    have own1 := own.1.rd
    rw [show tks s k = tkl (toks s k) from rfl] at own1
    refine callW_of (lz_Expand (os := toks s k) (by rw [hl]; exact own1.keep fun b _ => rfl) (by omega)) ?_
    rintro _ σ2 ⟨rfl, s2⟩
    replace s2 := s2.ob
    rw [he]
    repeat (first | refine To.go ?_ | with_reducible refine And.intro (by first | omega | exact ⟨rfl, rfl⟩) ?_ | ((with_reducible apply opt); (· (first | with_reducible assumption | rfl))) | ((with_reducible apply ldrw); (· (first | with_reducible assumption | (simp (disch := omega) only [go_sem, *]; try rfl))); (· (first | with_reducible assumption | rfl))) | ((with_reducible apply ldro); (· (first | with_reducible assumption | (simp (disch := omega) only [go_sem, *]; try rfl))); (· (first | with_reducible assumption | rfl))) | ((with_reducible apply st1); (· (first | with_reducible assumption | (simp (disch := omega) only [go_sem, *]; try rfl))); (· simp); (· rfl)) | with_reducible refine ifT rfl ?_ | with_reducible refine ifF (not_not_intro rfl) ?_ | with_reducible refine ifT (by omega) ?_ | with_reducible refine ifF (by omega) ?_)
    refine loop2 (fun (i : Nat) (n x : Int) σ' => x = i ∧ n = (pos s i : Nat) ∧ i ≤ k ∧ σ1.Same σ') (fun i => k - i) 0 ⟨rfl, rfl, by omega, s2.bump _⟩ ?_
    rintro i _ _ σ3 ⟨rfl, rfl, hi, s3⟩
    unfold F_law04_LzBack_l1
    have own3 := own1.keep fun b hb => s3.get b (own.2 b hb).2
    refine own3.len ?_
    refine ifD (fun hlt => ?_) (fun hge => ?_)
    · have hik : i < k := by omega
      have hpi := hk.2 i hik
      have hps := pos_le (s := s) (k := i + 1) fun j hj => hk.2 j (by omega)
      have hr := tk_right hpi
      have hnx := tk_le hpi
      have hps' : pos s (i + 1) = (tk s (pos s i)).2 := rfl
      have hget := toks_get (s := s) (k := k) (i := i) (by omega)
      obtain ⟨u, c, rfl, hu, _⟩ := own3.pos (by omega)
      repeat (first | refine To.go ?_ | with_reducible refine And.intro (by first | omega | exact ⟨rfl, rfl⟩) ?_ | ((with_reducible apply opt); (· (first | with_reducible assumption | rfl))) | ((with_reducible apply ldrw); (· (first | with_reducible assumption | (simp (disch := omega) only [go_sem, *]; try rfl))); (· (first | with_reducible assumption | rfl))) | ((with_reducible apply ldro); (· (first | with_reducible assumption | (simp (disch := omega) only [go_sem, *]; try rfl))); (· (first | with_reducible assumption | rfl))) | ((with_reducible apply st1); (· (first | with_reducible assumption | (simp (disch := omega) only [go_sem, *]; try rfl))); (· simp); (· rfl)) | with_reducible refine ifT rfl ?_ | with_reducible refine ifF (not_not_intro rfl) ?_ | with_reducible refine ifT (by omega) ?_ | with_reducible refine ifF (by omega) ?_)
      refine ldn_tok hu (by omega) ?_
      rw [hget]
      unfold tkAt
      obtain ⟨p, hp⟩ : ∃ p, tk s (pos s i) = p := ⟨_, rfl⟩
      rw [hp] at hr hnx hps' ⊢
      obtain ⟨t, nx⟩ := p
      dsimp only at hr hnx hps' ⊢
      refine callW_of (ref04_Right _) ?_
      rintro _ σ4 ⟨rfl, s4⟩
      replace s4 := s4.ob
      rw [decide_eq_true hr.1]
      have hu4 : ∃ q, σ4.get u = some q ∧ q.cellsR = some (tkl (toks s k)) := by
        obtain ⟨q, h1, h2⟩ := hu
        exact ⟨q, s4.keep h1 (Nat.lt_of_lt_of_le (own.2 u (by simp [blkOf])).2 s3.next), h2⟩
      have hcell : ∀ j < 3, (tkl (toks s k))[i * 3 + j]? = (tokC t)[j]? := fun j hj => by
        unfold tkl
        rw [flat_get tokC_len (by omega) hj, hget]
        unfold tkAt; rw [hp]
      have c1 := hcell 1 (by decide)
      have c2 := hcell 2 (by decide)
      obtain ⟨b, ln, ds⟩ := t
      have c1' : (tkl (toks s k))[i * 3 + 1]? = some (.int .i64 ln) := c1
      have c2' : (tkl (toks s k))[i * 3 + 2]? = some (.int .i64 ds) := c2
      dsimp only at hr
      repeat (first | refine To.go ?_ | with_reducible refine And.intro (by first | omega | exact ⟨rfl, rfl⟩) ?_ | ((with_reducible apply opt); (· (first | with_reducible assumption | rfl))) | ((with_reducible apply ldrw); (· (first | with_reducible assumption | (simp (disch := omega) only [go_sem, *]; try rfl))); (· (first | with_reducible assumption | rfl))) | ((with_reducible apply ldro); (· (first | with_reducible assumption | (simp (disch := omega) only [go_sem, *]; try rfl))); (· (first | with_reducible assumption | rfl))) | ((with_reducible apply st1); (· (first | with_reducible assumption | (simp (disch := omega) only [go_sem, *]; try rfl))); (· simp); (· rfl)) | with_reducible refine ifT rfl ?_ | with_reducible refine ifF (not_not_intro rfl) ?_ | with_reducible refine ifT (by omega) ?_ | with_reducible refine ifF (by omega) ?_)
      refine ld_rd hu4 c2' ?_
      repeat (first | refine To.go ?_ | with_reducible refine And.intro (by first | omega | exact ⟨rfl, rfl⟩) ?_ | ((with_reducible apply opt); (· (first | with_reducible assumption | rfl))) | ((with_reducible apply ldrw); (· (first | with_reducible assumption | (simp (disch := omega) only [go_sem, *]; try rfl))); (· (first | with_reducible assumption | rfl))) | ((with_reducible apply ldro); (· (first | with_reducible assumption | (simp (disch := omega) only [go_sem, *]; try rfl))); (· (first | with_reducible assumption | rfl))) | ((with_reducible apply st1); (· (first | with_reducible assumption | (simp (disch := omega) only [go_sem, *]; try rfl))); (· simp); (· rfl)) | with_reducible refine ifT rfl ?_ | with_reducible refine ifF (not_not_intro rfl) ?_ | with_reducible refine ifT (by omega) ?_ | with_reducible refine ifF (by omega) ?_)
      refine ld_rd hu4 c1' ?_
      have himax : imax ln 1 = max ln 1 := by unfold imax; split <;> omega
      refine To.go ?_
      rw [himax]
      repeat (first | refine To.go ?_ | with_reducible refine And.intro (by first | omega | exact ⟨rfl, rfl⟩) ?_ | ((with_reducible apply opt); (· (first | with_reducible assumption | rfl))) | ((with_reducible apply ldrw); (· (first | with_reducible assumption | (simp (disch := omega) only [go_sem, *]; try rfl))); (· (first | with_reducible assumption | rfl))) | ((with_reducible apply ldro); (· (first | with_reducible assumption | (simp (disch := omega) only [go_sem, *]; try rfl))); (· (first | with_reducible assumption | rfl))) | ((with_reducible apply st1); (· (first | with_reducible assumption | (simp (disch := omega) only [go_sem, *]; try rfl))); (· simp); (· rfl)) | with_reducible refine ifT rfl ?_ | with_reducible refine ifF (not_not_intro rfl) ?_ | with_reducible refine ifT (by omega) ?_ | with_reducible refine ifF (by omega) ?_)
      exact again ⟨i + 1, ⟨by omega, by omega, by omega, (s3.trans s4).bump _⟩, by omega⟩
    · obtain rfl : i = k := by omega
      repeat (first | refine To.go ?_ | with_reducible refine And.intro (by first | omega | exact ⟨rfl, rfl⟩) ?_ | ((with_reducible apply opt); (· (first | with_reducible assumption | rfl))) | ((with_reducible apply ldrw); (· (first | with_reducible assumption | (simp (disch := omega) only [go_sem, *]; try rfl))); (· (first | with_reducible assumption | rfl))) | ((with_reducible apply ldro); (· (first | with_reducible assumption | (simp (disch := omega) only [go_sem, *]; try rfl))); (· (first | with_reducible assumption | rfl))) | ((with_reducible apply st1); (· (first | with_reducible assumption | (simp (disch := omega) only [go_sem, *]; try rfl))); (· simp); (· rfl)) | with_reducible refine ifT rfl ?_ | with_reducible refine ifF (not_not_intro rfl) ?_ | with_reducible refine ifT (by omega) ?_ | with_reducible refine ifF (by omega) ?_)
      refine own3.len ?_
      have := hk.1
      repeat (first | refine To.go ?_ | with_reducible refine And.intro (by first | omega | exact ⟨rfl, rfl⟩) ?_ | ((with_reducible apply opt); (· (first | with_reducible assumption | rfl))) | ((with_reducible apply ldrw); (· (first | with_reducible assumption | (simp (disch := omega) only [go_sem, *]; try rfl))); (· (first | with_reducible assumption | rfl))) | ((with_reducible apply ldro); (· (first | with_reducible assumption | (simp (disch := omega) only [go_sem, *]; try rfl))); (· (first | with_reducible assumption | rfl))) | ((with_reducible apply st1); (· (first | with_reducible assumption | (simp (disch := omega) only [go_sem, *]; try rfl))); (· simp); (· rfl)) | with_reducible refine ifT rfl ?_ | with_reducible refine ifF (not_not_intro rfl) ?_ | with_reducible refine ifT (by omega) ?_ | with_reducible refine ifF (by omega) ?_)
      refine callW_of (law04_awake _) ?_
      rintro v σ1 ⟨rfl, rfl⟩
      repeat (first | refine To.go ?_ | with_reducible refine And.intro (by first | omega | exact ⟨rfl, rfl⟩) ?_ | ((with_reducible apply opt); (· (first | with_reducible assumption | rfl))) | ((with_reducible apply ldrw); (· (first | with_reducible assumption | (simp (disch := omega) only [go_sem, *]; try rfl))); (· (first | with_reducible assumption | rfl))) | ((with_reducible apply ldro); (· (first | with_reducible assumption | (simp (disch := omega) only [go_sem, *]; try rfl))); (· (first | with_reducible assumption | rfl))) | ((with_reducible apply st1); (· (first | with_reducible assumption | (simp (disch := omega) only [go_sem, *]; try rfl))); (· simp); (· rfl)) | with_reducible refine ifT rfl ?_ | with_reducible refine ifF (not_not_intro rfl) ?_ | with_reducible refine ifT (by omega) ?_ | with_reducible refine ifF (by omega) ?_)
      exact rfl
/-! ### Bytes that come again and again -/
def rep (p : ByteArray) : Nat → ByteArray
  | 0 => ⟨#[]⟩
  | n + 1 => rep p n ++ p
theorem rep_size (p : ByteArray) : ∀ n, (rep p n).size = n * p.size
  | 0 => by rw [Nat.zero_mul]; rfl
  | n + 1 => by rw [rep, ByteArray.size_append, rep_size p n, Nat.add_mul, Nat.one_mul]
theorem byteAt_append (a b : ByteArray) (i : Nat) : byteAt (a ++ b) i = if i < a.size then byteAt a i else byteAt b (i - a.size) := by
  unfold byteAt
  rw [bytesL_append, List.getElem?_append, bytesL_length]
  split <;> rfl
theorem rep_at {p : ByteArray} {i : Nat} : ∀ {n : Nat}, i < n * p.size → byteAt (rep p n) i = byteAt p (i % p.size)
  | 0, h => by omega
  | n + 1, h => by
    rw [Nat.add_mul, Nat.one_mul] at h
    rw [rep, byteAt_append, rep_size]
    split
    · exact rep_at (by assumption)
    · rw [show i % p.size = i - n * p.size from ?_]
      obtain ⟨j, rfl⟩ := Nat.exists_eq_add_of_le (show n * p.size ≤ i by omega)
      rw [Nat.add_sub_cancel_left, Nat.mul_comm, Nat.mul_add_mod, Nat.mod_eq_of_lt (by omega)]
theorem rep_agr {p : ByteArray} {k i n : Nat} (hp : 0 < p.size) (h1 : p.size ≤ i) (h2 : i + n < (rep p k).size) : agr (rep p k) i p.size n := by
  refine ⟨h2, ?_⟩
  rw [rep_size] at h2
  rw [rep_at h2, rep_at (by omega), ← Nat.mod_eq_sub_mod (by omega)]
theorem rep_best {p : ByteArray} {k i : Nat} (hp : 0 < p.size) (hp2 : p.size ≤ 200) (h1 : p.size ≤ i) (h2 : i ≤ (rep p k).size) : (best (rep p k) i).1 = min 258 ((rep p k).size - i) := by
  have h3 : min 258 ((rep p k).size - i) ≤ ml (rep p k) i p.size := ml_max (by omega) fun t ht => rep_agr hp h1 (by omega)
  have h4 := rb_max (rep p k) i (d := min 512 i) (e := p.size) hp (by omega)
  have h5 := best_size h2
  have h6 := (rb_le (rep p k) i (min 512 i)).1
  unfold best at h5 ⊢
  omega
/-- How many tokens may come. -/
def left (p n i : Nat) : Nat := if i < p then (p - i) + (n - p) / 258 + 2 else (n - i) / 258 + min 2 ((n - i) % 258)
theorem left_step {p : ByteArray} {k i : Nat} (hp : 0 < p.size) (hp2 : p.size ≤ 200) (hi : i < (rep p k).size) : left p.size (rep p k).size (tk (rep p k) i).2 + 1 ≤ left p.size (rep p k).size i := by
  have h1 := tk_le hi
  unfold left
  rcases Nat.lt_or_ge i p.size with hlt | hge
  · rw [if_pos hlt]
    generalize (tk (rep p k) i).2 = j at *
    split <;> omega
  · have hb := rep_best (k := k) hp hp2 hge (Nat.le_of_lt hi)
    have htk : (tk (rep p k) i).2 = if 3 ≤ (best (rep p k) i).1 then i + (best (rep p k) i).1 else i + 1 := by unfold tk; split <;> rfl
    rw [hb] at htk
    generalize (tk (rep p k) i).2 = j at *
    generalize (rep p k).size = n at *
    rw [if_neg (by omega), if_neg (by omega)]
    split at htk
    · rcases Nat.lt_or_ge (n - i) 258 with h | h
      · have : n - j = 0 := by omega
        rw [this]; omega
      · have : n - i = (n - j) + 258 := by omega
        rw [this]; omega
    · omega
theorem left_all {p : ByteArray} {k K : Nat} (hp : 0 < p.size) (hp2 : p.size ≤ 200) (h : Done (rep p k) K) : ∀ j, j ≤ K → left p.size (rep p k).size (pos (rep p k) j) + j ≤ left p.size (rep p k).size 0
  | 0, _ => Nat.le_refl _
  | j + 1, hj => by
    have h1 := left_all hp hp2 h j (by omega)
    have h2 := left_step hp hp2 (h.2 j (by omega))
    have h3 : pos (rep p k) (j + 1) = (tk (rep p k) (pos (rep p k) j)).2 := rfl
    rw [h3]; omega
theorem few {p : ByteArray} {k K : Nat} (hp : 0 < p.size) (hp2 : p.size ≤ 200) (h : Done (rep p k) K) : K ≤ p.size + ((rep p k).size - p.size) / 258 + 2 := by
  have := left_all hp hp2 h K (Nat.le_refl _)
  rw [show left p.size (rep p k).size 0 = p.size - 0 + ((rep p k).size - p.size) / 258 + 2 from if_pos hp] at this
  omega
theorem args_si {σ : Mem} {l : List AV} (hw : Wts PG σ [9, 3] l) : ∃ s n, l = [.str s, .int .i64 n] ∧ s.size ≤ reachBytes ∧ -9223372036854775808 ≤ n ∧ n ≤ 9223372036854775807 := by
  obtain ⟨s, r, rfl, hs, hw⟩ := hw.str (by kernel_rfl)
  obtain ⟨n, r', rfl, hn, hw⟩ := hw.int (k := .i64) (by kernel_rfl)
  obtain rfl := hw.nil_inv
  exact ⟨s, n, rfl, hs, wf_i64 hn⟩
theorem law04_LzLong (σ : Mem) (l : List AV) (_ : σ.Ro) (hw : Wts PG σ Try.f6.params.toList l) : ACalls PG n_law04_LzLong l σ fun v _ => isTrue v := by
  obtain ⟨s, n, rfl, hs, hn1, hn2⟩ := args_si (show Wts PG σ [9, 3] l by rw [Try.params6] at hw; exact hw)
  clear hw
  refine ok_law04_LzLong fun live => ?_
  unfold F_law04_LzLong
  refine ifD (fun h => ?_) (fun h1 => ?_)
  · refine callW_of (law04_awake _) ?_
    rintro v σ1 ⟨rfl, rfl⟩
    repeat (first | refine To.go ?_ | with_reducible refine And.intro (by first | omega | exact ⟨rfl, rfl⟩) ?_ | ((with_reducible apply opt); (· (first | with_reducible assumption | rfl))) | ((with_reducible apply ldrw); (· (first | with_reducible assumption | (simp (disch := omega) only [go_sem, *]; try rfl))); (· (first | with_reducible assumption | rfl))) | ((with_reducible apply ldro); (· (first | with_reducible assumption | (simp (disch := omega) only [go_sem, *]; try rfl))); (· (first | with_reducible assumption | rfl))) | ((with_reducible apply st1); (· (first | with_reducible assumption | (simp (disch := omega) only [go_sem, *]; try rfl))); (· simp); (· rfl)) | with_reducible refine ifT rfl ?_ | with_reducible refine ifF (not_not_intro rfl) ?_ | with_reducible refine ifT (by omega) ?_ | with_reducible refine ifF (by omega) ?_)
    exact rfl
  refine ifD (fun h => ?_) (fun h200 => ?_)
  · refine callW_of (law04_awake _) ?_
    rintro v σ1 ⟨rfl, rfl⟩
    repeat (first | refine To.go ?_ | with_reducible refine And.intro (by first | omega | exact ⟨rfl, rfl⟩) ?_ | ((with_reducible apply opt); (· (first | with_reducible assumption | rfl))) | ((with_reducible apply ldrw); (· (first | with_reducible assumption | (simp (disch := omega) only [go_sem, *]; try rfl))); (· (first | with_reducible assumption | rfl))) | ((with_reducible apply ldro); (· (first | with_reducible assumption | (simp (disch := omega) only [go_sem, *]; try rfl))); (· (first | with_reducible assumption | rfl))) | ((with_reducible apply st1); (· (first | with_reducible assumption | (simp (disch := omega) only [go_sem, *]; try rfl))); (· simp); (· rfl)) | with_reducible refine ifT rfl ?_ | with_reducible refine ifF (not_not_intro rfl) ?_ | with_reducible refine ifT (by omega) ?_ | with_reducible refine ifF (by omega) ?_)
    exact rfl
  have hk : 1 ≤ imin (imax n 1) 40 ∧ imin (imax n 1) 40 ≤ 40 := by unfold imin imax; split <;> split <;> omega
  repeat (first | refine To.go ?_ | with_reducible refine And.intro (by first | omega | exact ⟨rfl, rfl⟩) ?_ | ((with_reducible apply opt); (· (first | with_reducible assumption | rfl))) | ((with_reducible apply ldrw); (· (first | with_reducible assumption | (simp (disch := omega) only [go_sem, *]; try rfl))); (· (first | with_reducible assumption | rfl))) | ((with_reducible apply ldro); (· (first | with_reducible assumption | (simp (disch := omega) only [go_sem, *]; try rfl))); (· (first | with_reducible assumption | rfl))) | ((with_reducible apply st1); (· (first | with_reducible assumption | (simp (disch := omega) only [go_sem, *]; try rfl))); (· simp); (· rfl)) | with_reducible refine ifT rfl ?_ | with_reducible refine ifF (not_not_intro rfl) ?_ | with_reducible refine ifT (by omega) ?_ | with_reducible refine ifF (by omega) ?_)
  obtain ⟨k, hke⟩ := int_nat (show 0 ≤ imin (imax n 1) 40 by omega)
  rw [hke] at hk ⊢
  have hmul : ∀ j, j ≤ k → j * s.size ≤ 40 * 200 := fun j hj => Nat.mul_le_mul (by omega) (by omega)
  refine loop2 (fun (i : Nat) (d : ByteArray) (x : Int) σ' => x = i ∧ d = rep s i ∧ i ≤ k) (fun i => k - i) 0 ⟨rfl, rfl, by omega⟩ ?_
  rintro i _ _ σ1 ⟨rfl, rfl, hi⟩
  unfold F_law04_LzLong_l1
  have hsz := rep_size s i
  have hm := hmul i hi
  refine ifD (fun hlt => ?_) (fun hge => ?_)
  · repeat (first | refine To.go ?_ | with_reducible refine And.intro (by first | omega | exact ⟨rfl, rfl⟩) ?_ | ((with_reducible apply opt); (· (first | with_reducible assumption | rfl))) | ((with_reducible apply ldrw); (· (first | with_reducible assumption | (simp (disch := omega) only [go_sem, *]; try rfl))); (· (first | with_reducible assumption | rfl))) | ((with_reducible apply ldro); (· (first | with_reducible assumption | (simp (disch := omega) only [go_sem, *]; try rfl))); (· (first | with_reducible assumption | rfl))) | ((with_reducible apply st1); (· (first | with_reducible assumption | (simp (disch := omega) only [go_sem, *]; try rfl))); (· simp); (· rfl)) | with_reducible refine ifT rfl ?_ | with_reducible refine ifF (not_not_intro rfl) ?_ | with_reducible refine ifT (by omega) ?_ | with_reducible refine ifF (by omega) ?_)
    exact again ⟨i + 1, ⟨by omega, rfl, by omega⟩, by omega⟩
  · obtain rfl : i = k := by omega
    refine callW_of (lz_Tokens _ (by omega) _) ?_
    rintro v σ2 ⟨K, hK, own, s2⟩
    have hfew := few (p := s) (by omega) (by omega) hK
    have hge1 : 1 * s.size ≤ i * s.size := Nat.mul_le_mul_right _ (by omega)
    rw [hsz] at hfew ⊢
    obtain ⟨N, hN⟩ : ∃ N, i * s.size = N := ⟨_, rfl⟩
    rw [hN] at hfew hge1 hm ⊢
    refine own.1.len ?_
    repeat (first | refine To.go ?_ | with_reducible refine And.intro (by first | omega | exact ⟨rfl, rfl⟩) ?_ | ((with_reducible apply opt); (· (first | with_reducible assumption | rfl))) | ((with_reducible apply ldrw); (· (first | with_reducible assumption | (simp (disch := omega) only [go_sem, *]; try rfl))); (· (first | with_reducible assumption | rfl))) | ((with_reducible apply ldro); (· (first | with_reducible assumption | (simp (disch := omega) only [go_sem, *]; try rfl))); (· (first | with_reducible assumption | rfl))) | ((with_reducible apply st1); (· (first | with_reducible assumption | (simp (disch := omega) only [go_sem, *]; try rfl))); (· simp); (· rfl)) | with_reducible refine ifT rfl ?_ | with_reducible refine ifF (not_not_intro rfl) ?_ | with_reducible refine ifT (by omega) ?_ | with_reducible refine ifF (by omega) ?_)
    refine callW_of (law04_awake _) ?_
    rintro v σ1 ⟨rfl, rfl⟩
    repeat (first | refine To.go ?_ | with_reducible refine And.intro (by first | omega | exact ⟨rfl, rfl⟩) ?_ | ((with_reducible apply opt); (· (first | with_reducible assumption | rfl))) | ((with_reducible apply ldrw); (· (first | with_reducible assumption | (simp (disch := omega) only [go_sem, *]; try rfl))); (· (first | with_reducible assumption | rfl))) | ((with_reducible apply ldro); (· (first | with_reducible assumption | (simp (disch := omega) only [go_sem, *]; try rfl))); (· (first | with_reducible assumption | rfl))) | ((with_reducible apply st1); (· (first | with_reducible assumption | (simp (disch := omega) only [go_sem, *]; try rfl))); (· simp); (· rfl)) | with_reducible refine ifT rfl ?_ | with_reducible refine ifF (not_not_intro rfl) ?_ | with_reducible refine ifT (by omega) ?_ | with_reducible refine ifF (by omega) ?_)
    exact rfl
end Go.Vit
