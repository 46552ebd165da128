/- The law BitsWrites. -/
import Derived.Test.YtjhmjjbllaodlaaVB9
set_option linter.unusedVariables false
set_option linter.unusedSimpArgs false
set_option linter.unusedSimpArgs false
set_option maxRecDepth 20000
namespace Go.Vit
open Go.Proofs
theorem Grow.same {o o' : List Nat} {σ σ1 σ2 : Mem} (h : Grow o o' σ1 σ2) (s : σ.Same σ1) (ho : ∀ b ∈ o, σ.next ≤ b) : σ.Same σ2 ∧ ∀ b ∈ o', σ.next ≤ b := by
  refine ⟨⟨Nat.le_trans s.next h.only.next, fun b hb => ?_⟩, fun b hb => ?_⟩
  · refine (h.only.get b (Nat.lt_of_lt_of_le hb s.next) fun hm => ?_).trans (s.get b hb)
    have := ho b hm; omega
  · rcases h.new b hb with h1 | h1
    · exact ho b h1
    · exact Nat.le_trans s.next h1
theorem WrP.keep {σ σ' : Mem} {w : Nat} {o : List Nat} {W N : Nat} (h : WrP σ w o W N) (hb : ∀ b ∈ o, σ'.get b = σ.get b) : WrP σ' w o W N := ⟨h.1, h.2.keep hb⟩
theorem opsA.same {σ σ' : Mem} {a : AV} {os : List (Bool × Int × Int)} (h : opsA σ a os) (live : σ.Live) (s : σ.Same σ') : opsA σ' a os :=
  h.keep live (s.only []) (by simp)
/-- A call as an aggregate off the list. -/
theorem ldn_op {σ : Mem} {b i : Nat} {os : List (Bool × Int × Int)} {K : AV → Prop} (hb : σ.get b = some (.ro (os.flatMap opC))) (hi : i < os.length) (hk : K (.agg (opC os[i]))) : ldnW 3 σ (.ptr b (i * 3)) K := by
  refine ldnq hb rfl ?_ ?_
  · rw [flat_length opC_len]; omega
  · rw [flat_piece opC_len hi]; exact hk
/-- Both writers, each with its own memory. -/
def Two (σ σ' : Mem) (w x : Nat) (p q : Nat × Nat) : Prop :=
  ∃ o1 o2, WrP σ' w o1 p.1 p.2 ∧ WrR σ' x o2 q.1 q.2 ∧ (∀ b ∈ o1, b < σ'.next ∧ b ∉ o2) ∧ (∀ b ∈ o2, b < σ'.next ∧ b ∉ o1) ∧ (∀ b ∈ o1, σ.next ≤ b) ∧ (∀ b ∈ o2, σ.next ≤ b) ∧ σ.Same σ'
theorem Two.same {σ σ1 σ2 : Mem} {w x : Nat} {p q : Nat × Nat} (h : Two σ σ1 w x p q) (s : σ1.Same σ2) : Two σ σ2 w x p q := by
  obtain ⟨o1, o2, h1, h2, h3, h4, h5, h6, h7⟩ := h
  exact ⟨o1, o2, h1.keep fun b hb => s.get b (h3 b hb).1, h2.keep fun b hb => s.get b (h4 b hb).1, fun b hb => ⟨Nat.lt_of_lt_of_le (h3 b hb).1 s.next, (h3 b hb).2⟩, fun b hb => ⟨Nat.lt_of_lt_of_le (h4 b hb).1 s.next, (h4 b hb).2⟩, h5, h6, h7.trans s⟩
theorem Two.left {σ σ1 : Mem} {w x : Nat} {p q : Nat × Nat} (h : Two σ σ1 w x p q) : ∃ o, WrP σ1 w o p.1 p.2 ∧ ∀ σ2 p', (∃ o', WrP σ2 w o' p'.1 p'.2 ∧ Grow o o' σ1 σ2) → Two σ σ2 w x p' q := by
  obtain ⟨o1, o2, h1, h2, h3, h4, h5, h6, h7⟩ := h
  refine ⟨o1, h1, fun σ2 p' ⟨o', h8, g⟩ => ?_⟩
  obtain ⟨s, hn⟩ := g.same h7 h5
  obtain ⟨a1, a2⟩ := g.apart h4
  exact ⟨o', o2, h8, h2.keep a2, fun b hb => ⟨g.lt b hb, fun hm => (a1 b hm).2 hb⟩, a1, hn, h6, s⟩
theorem Two.right {σ σ1 : Mem} {w x : Nat} {p q : Nat × Nat} (h : Two σ σ1 w x p q) : ∃ o, WrR σ1 x o q.1 q.2 ∧ ∀ σ2 q', (∃ o', WrR σ2 x o' q'.1 q'.2 ∧ Grow o o' σ1 σ2) → Two σ σ2 w x p q' := by
  obtain ⟨o1, o2, h1, h2, h3, h4, h5, h6, h7⟩ := h
  refine ⟨o2, h2, fun σ2 q' ⟨o', h8, g⟩ => ?_⟩
  obtain ⟨s, hn⟩ := g.same h7 h6
  obtain ⟨a1, a2⟩ := g.apart h3
  exact ⟨o1, o', h1.keep a2, h8, a1, fun b hb => ⟨g.lt b hb, fun hm => (a1 b hm).2 hb⟩, h5, hn, s⟩
/-- What a call lays. -/
def layOp (p : Nat × Nat) (o : Bool × Int × Int) : Nat × Nat := if o.1 then layB p.1 p.2 (opText o.2.1 o.2.2) else lay p.1 p.2 o.2.2 o.2.1
theorem layOp_le (p : Nat × Nat) (o : Bool × Int × Int) : (layOp p o).2 ≤ p.2 + 500 := by
  unfold layOp
  split
  · have := (opLen_le o.2.1).1
    unfold layB; dsimp only; rw [size_opText]; omega
  · unfold lay
    split
    · omega
    · dsimp only; omega
theorem opText_le (n v : Int) : (opText n v).size ≤ 2 ^ 40 := by rw [size_opText]; have := (opLen_le n).1; omega
theorem args_ops {σ : Mem} {l : List AV} (hw : Wts PG σ [37] l) : ∃ a os, l = [a] ∧ opsA σ a os ∧ ∀ o ∈ os, opOk o := by
  obtain ⟨a, r, os, rfl, hw, ha, hok⟩ := ops_arg hw
  obtain rfl := hw.nil_inv
  exact ⟨a, os, rfl, ha, hok⟩
theorem law01_BitsWrites (σ : Mem) (l : List AV) (_ : σ.Ro) (hw : Wts PG σ Try.f10.params.toList l) : ACalls PG n_law01_BitsWrites l σ fun v _ => isTrue v := by
  obtain ⟨a, os, rfl, ha, hok⟩ := args_ops (show Wts PG σ [37] l by rw [Try.params10] at hw; exact hw)
  clear hw
  refine ok_law01_BitsWrites fun live => ?_
  unfold F_law01_BitsWrites
  refine callW_of (bits_New _) ?_
  rintro v σ1 ⟨w, rfl, hw1, hw2, e1, s1⟩
  replace s1 := s1.ob
  simp only [Mem.next_bump] at hw1
  repeat (first | refine To.go ?_ | with_reducible refine And.intro (by first | omega | exact ⟨rfl, rfl⟩) ?_ | ((with_reducible apply opt); (· (first | with_reducible assumption | rfl))) | ((with_reducible apply ldrw); (· (first | with_reducible assumption | (simp (disch := omega) only [go_sem, *]; try rfl))); (· (first | with_reducible assumption | rfl))) | ((with_reducible apply ldro); (· (first | with_reducible assumption | (simp (disch := omega) only [go_sem, *]; try rfl))); (· (first | with_reducible assumption | rfl))) | ((with_reducible apply st1); (· (first | with_reducible assumption | (simp (disch := omega) only [go_sem, *]; try rfl))); (· simp); (· rfl)) | with_reducible refine ifT rfl ?_ | with_reducible refine ifF (not_not_intro rfl) ?_ | with_reducible refine ifT (by omega) ?_ | with_reducible refine ifF (by omega) ?_)
  obtain ⟨x, hx⟩ : ∃ x, x = σ1.next + 3 := ⟨_, rfl⟩
  rw [← hx]
  have hn1 := s1.next
  have hwx : w ≠ x := by omega
  have start : Two σ (((σ1.bump 5).put x (some (.rw [.nils, .int .i64 0]))).bump 1) w x (0, 0) (0, 0) := by
    refine ⟨[w], [x], e1.keep ?_, ⟨by decide, .nils, rfl, by simp [blkOf], ?_, .inl ⟨rfl, rfl, rfl⟩⟩, ?_, ?_, ?_, ?_, ?_⟩
    · simp; rw [Mem.get_bump, Mem.get_put_ne _ hwx]; rfl
    · rw [Mem.get_bump, gS']; rfl
    · simp [hwx, Mem.next_put, Mem.next_bump]; omega
    · simp [hwx.symm, Mem.next_put, Mem.next_bump]; omega
    · simp; omega
    · simp; omega
    · refine Mem.Same.bump (Mem.Same.put (s1.bump _) ?_ _) _
      omega
  refine loop1 (fun (i : Nat) (k : Int) σ' => k = i ∧ i ≤ os.length ∧ i ≤ 300 ∧ ∃ p, p.2 ≤ 500 * i ∧ Two σ σ' w x p p) (fun i => os.length - i) 0 ⟨rfl, by omega, by omega, (0, 0), by simp, start⟩ ?_
  rintro i k σ2 ⟨rfl, hi, h3, p, hp, T⟩
  have hT := T
  obtain ⟨_, _, _, _, _, _, _, _, s2⟩ := hT
  have ha2 := ha.same live s2
  unfold F_law01_BitsWrites_l1
  rw [← hx]
  refine ops_len ha2 ?_
  refine ifD (fun hlt => ?_) (fun hge => ?_)
  · have hlt' : i < os.length := by omega
    obtain ⟨b, rfl, hb⟩ := ops_at ha hlt'
    obtain ⟨c0, c1, c2⟩ := ops_cell hlt'
    have hb2 := s2.keep hb (live.lt hb)
    have hok' := hok os[i] (List.getElem_mem hlt')
    refine ifD (fun h3 => ?_) (fun h3 => ?_)
    · repeat (first | refine To.go ?_ | with_reducible refine And.intro (by first | omega | exact ⟨rfl, rfl⟩) ?_ | ((with_reducible apply opt); (· (first | with_reducible assumption | rfl))) | ((with_reducible apply ldrw); (· (first | with_reducible assumption | (simp (disch := omega) only [go_sem, *]; try rfl))); (· (first | with_reducible assumption | rfl))) | ((with_reducible apply ldro); (· (first | with_reducible assumption | (simp (disch := omega) only [go_sem, *]; try rfl))); (· (first | with_reducible assumption | rfl))) | ((with_reducible apply st1); (· (first | with_reducible assumption | (simp (disch := omega) only [go_sem, *]; try rfl))); (· simp); (· rfl)) | with_reducible refine ifT rfl ?_ | with_reducible refine ifF (not_not_intro rfl) ?_ | with_reducible refine ifT (by omega) ?_ | with_reducible refine ifF (by omega) ?_)
      refine join0 (fun σ' => Two σ σ' w x (layOp p os[i]) (layOp p os[i])) ?_ ?_
      · refine ifI (fun hwhole => ?_) (fun hbits => ?_)
        · rw [layOp, if_pos hwhole]
          repeat (first | refine To.go ?_ | with_reducible refine And.intro (by first | omega | exact ⟨rfl, rfl⟩) ?_ | ((with_reducible apply opt); (· (first | with_reducible assumption | rfl))) | ((with_reducible apply ldrw); (· (first | with_reducible assumption | (simp (disch := omega) only [go_sem, *]; try rfl))); (· (first | with_reducible assumption | rfl))) | ((with_reducible apply ldro); (· (first | with_reducible assumption | (simp (disch := omega) only [go_sem, *]; try rfl))); (· (first | with_reducible assumption | rfl))) | ((with_reducible apply st1); (· (first | with_reducible assumption | (simp (disch := omega) only [go_sem, *]; try rfl))); (· simp); (· rfl)) | with_reducible refine ifT rfl ?_ | with_reducible refine ifF (not_not_intro rfl) ?_ | with_reducible refine ifT (by omega) ?_ | with_reducible refine ifF (by omega) ?_)
          refine ldn_op hb2 hlt' ?_
          refine callW_of (law01_Op_text hok' _) ?_
          rintro v σ3 ⟨rfl, s3⟩
          have T3 := T.same s3.ob
          obtain ⟨o, hP, hT⟩ := T3.left
          repeat (first | refine To.go ?_ | with_reducible refine And.intro (by first | omega | exact ⟨rfl, rfl⟩) ?_ | ((with_reducible apply opt); (· (first | with_reducible assumption | rfl))) | ((with_reducible apply ldrw); (· (first | with_reducible assumption | (simp (disch := omega) only [go_sem, *]; try rfl))); (· (first | with_reducible assumption | rfl))) | ((with_reducible apply ldro); (· (first | with_reducible assumption | (simp (disch := omega) only [go_sem, *]; try rfl))); (· (first | with_reducible assumption | rfl))) | ((with_reducible apply st1); (· (first | with_reducible assumption | (simp (disch := omega) only [go_sem, *]; try rfl))); (· simp); (· rfl)) | with_reducible refine ifT rfl ?_ | with_reducible refine ifF (not_not_intro rfl) ?_ | with_reducible refine ifT (by omega) ?_ | with_reducible refine ifF (by omega) ?_)
          refine callW_of (bits_Writer_Bytes hP (by omega) (opText_le _ _)) ?_
          rintro v σ4 ⟨rfl, hr⟩
          have T4 := hT σ4 (layB p.1 p.2 (opText os[i].2.1 os[i].2.2)) hr
          have hT4 := T4
          obtain ⟨_, _, _, _, _, _, _, _, s4⟩ := hT4
          have hb4 := s4.keep hb (live.lt hb)
          repeat (first | refine To.go ?_ | with_reducible refine And.intro (by first | omega | exact ⟨rfl, rfl⟩) ?_ | ((with_reducible apply opt); (· (first | with_reducible assumption | rfl))) | ((with_reducible apply ldrw); (· (first | with_reducible assumption | (simp (disch := omega) only [go_sem, *]; try rfl))); (· (first | with_reducible assumption | rfl))) | ((with_reducible apply ldro); (· (first | with_reducible assumption | (simp (disch := omega) only [go_sem, *]; try rfl))); (· (first | with_reducible assumption | rfl))) | ((with_reducible apply st1); (· (first | with_reducible assumption | (simp (disch := omega) only [go_sem, *]; try rfl))); (· simp); (· rfl)) | with_reducible refine ifT rfl ?_ | with_reducible refine ifF (not_not_intro rfl) ?_ | with_reducible refine ifT (by omega) ?_ | with_reducible refine ifF (by omega) ?_)
          refine ldn_op hb4 hlt' ?_
          refine callW_of (law01_Op_text hok' _) ?_
          rintro v σ5 ⟨rfl, s5⟩
          have T5 := T4.same s5.ob
          obtain ⟨o', hP', hT'⟩ := T5.right
          repeat (first | refine To.go ?_ | with_reducible refine And.intro (by first | omega | exact ⟨rfl, rfl⟩) ?_ | ((with_reducible apply opt); (· (first | with_reducible assumption | rfl))) | ((with_reducible apply ldrw); (· (first | with_reducible assumption | (simp (disch := omega) only [go_sem, *]; try rfl))); (· (first | with_reducible assumption | rfl))) | ((with_reducible apply ldro); (· (first | with_reducible assumption | (simp (disch := omega) only [go_sem, *]; try rfl))); (· (first | with_reducible assumption | rfl))) | ((with_reducible apply st1); (· (first | with_reducible assumption | (simp (disch := omega) only [go_sem, *]; try rfl))); (· simp); (· rfl)) | with_reducible refine ifT rfl ?_ | with_reducible refine ifF (not_not_intro rfl) ?_ | with_reducible refine ifT (by omega) ?_ | with_reducible refine ifF (by omega) ?_)
          refine callW_of (ref01_Writer_Bytes hP' (by omega) (opText_le _ _)) ?_
          rintro v σ6 ⟨rfl, hr'⟩
          exact hT' σ6 (layB p.1 p.2 (opText os[i].2.1 os[i].2.2)) hr'
        · rw [layOp, if_neg (by rw [hbits]; decide)]
          repeat (first | refine To.go ?_ | with_reducible refine And.intro (by first | omega | exact ⟨rfl, rfl⟩) ?_ | ((with_reducible apply opt); (· (first | with_reducible assumption | rfl))) | ((with_reducible apply ldrw); (· (first | with_reducible assumption | (simp (disch := omega) only [go_sem, *]; try rfl))); (· (first | with_reducible assumption | rfl))) | ((with_reducible apply ldro); (· (first | with_reducible assumption | (simp (disch := omega) only [go_sem, *]; try rfl))); (· (first | with_reducible assumption | rfl))) | ((with_reducible apply st1); (· (first | with_reducible assumption | (simp (disch := omega) only [go_sem, *]; try rfl))); (· simp); (· rfl)) | with_reducible refine ifT rfl ?_ | with_reducible refine ifF (not_not_intro rfl) ?_ | with_reducible refine ifT (by omega) ?_ | with_reducible refine ifF (by omega) ?_)
          obtain ⟨o, hP, hT⟩ := (T.same ((Mem.Same.refl σ2).bump 25)).left
          refine callW_of (bits_Writer_Bits hP (by omega) hok'.2.1 hok'.2.2) ?_
          rintro v σ4 ⟨rfl, hr⟩
          have T4 := hT σ4 (lay p.1 p.2 os[i].2.2 os[i].2.1) hr
          have hT4 := T4
          obtain ⟨_, _, _, _, _, _, _, _, s4⟩ := hT4
          have hb4 := s4.keep hb (live.lt hb)
          repeat (first | refine To.go ?_ | with_reducible refine And.intro (by first | omega | exact ⟨rfl, rfl⟩) ?_ | ((with_reducible apply opt); (· (first | with_reducible assumption | rfl))) | ((with_reducible apply ldrw); (· (first | with_reducible assumption | (simp (disch := omega) only [go_sem, *]; try rfl))); (· (first | with_reducible assumption | rfl))) | ((with_reducible apply ldro); (· (first | with_reducible assumption | (simp (disch := omega) only [go_sem, *]; try rfl))); (· (first | with_reducible assumption | rfl))) | ((with_reducible apply st1); (· (first | with_reducible assumption | (simp (disch := omega) only [go_sem, *]; try rfl))); (· simp); (· rfl)) | with_reducible refine ifT rfl ?_ | with_reducible refine ifF (not_not_intro rfl) ?_ | with_reducible refine ifT (by omega) ?_ | with_reducible refine ifF (by omega) ?_)
          obtain ⟨o', hP', hT'⟩ := (T4.same ((Mem.Same.refl σ4).bump 12)).right
          refine callW_of (ref01_Writer_Bits hP' (by omega) hok'.2.1 hok'.2.2) ?_
          rintro v σ6 ⟨rfl, hr'⟩
          exact hT' σ6 (lay p.1 p.2 os[i].2.2 os[i].2.1) hr'
      · rintro σ5 T5
        unfold F_law01_BitsWrites_j1
        have hp' := layOp_le p os[i]
        obtain ⟨o, hP, _⟩ := (T5.same ((Mem.Same.refl σ5).bump 5)).left
        refine callW_of (bits_Writer_Text hP (by omega)) ?_
        rintro v σ6 ⟨rfl, s6⟩
        have T6 := T5.same s6.ob
        obtain ⟨o, hP, _⟩ := T6.right
        repeat (first | refine To.go ?_ | with_reducible refine And.intro (by first | omega | exact ⟨rfl, rfl⟩) ?_ | ((with_reducible apply opt); (· (first | with_reducible assumption | rfl))) | ((with_reducible apply ldrw); (· (first | with_reducible assumption | (simp (disch := omega) only [go_sem, *]; try rfl))); (· (first | with_reducible assumption | rfl))) | ((with_reducible apply ldro); (· (first | with_reducible assumption | (simp (disch := omega) only [go_sem, *]; try rfl))); (· (first | with_reducible assumption | rfl))) | ((with_reducible apply st1); (· (first | with_reducible assumption | (simp (disch := omega) only [go_sem, *]; try rfl))); (· simp); (· rfl)) | with_reducible refine ifT rfl ?_ | with_reducible refine ifF (not_not_intro rfl) ?_ | with_reducible refine ifT (by omega) ?_ | with_reducible refine ifF (by omega) ?_)
        rw [← hx]
        refine callW_of (ref01_Writer_Text hP) ?_
        rintro v σ7 ⟨rfl, s7⟩
        have T7 := T6.same s7
        repeat (first | refine To.go ?_ | with_reducible refine And.intro (by first | omega | exact ⟨rfl, rfl⟩) ?_ | ((with_reducible apply opt); (· (first | with_reducible assumption | rfl))) | ((with_reducible apply ldrw); (· (first | with_reducible assumption | (simp (disch := omega) only [go_sem, *]; try rfl))); (· (first | with_reducible assumption | rfl))) | ((with_reducible apply ldro); (· (first | with_reducible assumption | (simp (disch := omega) only [go_sem, *]; try rfl))); (· (first | with_reducible assumption | rfl))) | ((with_reducible apply st1); (· (first | with_reducible assumption | (simp (disch := omega) only [go_sem, *]; try rfl))); (· simp); (· rfl)) | with_reducible refine ifT rfl ?_ | with_reducible refine ifF (not_not_intro rfl) ?_ | with_reducible refine ifT (by omega) ?_ | with_reducible refine ifF (by omega) ?_)
        exact again ⟨i + 1, ⟨by omega, by omega, by omega, _, by omega, T7.same ((Mem.Same.refl σ7).bump 3)⟩, by omega⟩
    · refine callW_of (law01_awake _) ?_
      rintro v σ3 ⟨rfl, _⟩
      repeat (first | refine To.go ?_ | with_reducible refine And.intro (by first | omega | exact ⟨rfl, rfl⟩) ?_ | ((with_reducible apply opt); (· (first | with_reducible assumption | rfl))) | ((with_reducible apply ldrw); (· (first | with_reducible assumption | (simp (disch := omega) only [go_sem, *]; try rfl))); (· (first | with_reducible assumption | rfl))) | ((with_reducible apply ldro); (· (first | with_reducible assumption | (simp (disch := omega) only [go_sem, *]; try rfl))); (· (first | with_reducible assumption | rfl))) | ((with_reducible apply st1); (· (first | with_reducible assumption | (simp (disch := omega) only [go_sem, *]; try rfl))); (· simp); (· rfl)) | with_reducible refine ifT rfl ?_ | with_reducible refine ifF (not_not_intro rfl) ?_ | with_reducible refine ifT (by omega) ?_ | with_reducible refine ifF (by omega) ?_)
      exact rfl
  · refine callW_of (law01_awake _) ?_
    rintro v σ3 ⟨rfl, _⟩
    repeat (first | refine To.go ?_ | with_reducible refine And.intro (by first | omega | exact ⟨rfl, rfl⟩) ?_ | ((with_reducible apply opt); (· (first | with_reducible assumption | rfl))) | ((with_reducible apply ldrw); (· (first | with_reducible assumption | (simp (disch := omega) only [go_sem, *]; try rfl))); (· (first | with_reducible assumption | rfl))) | ((with_reducible apply ldro); (· (first | with_reducible assumption | (simp (disch := omega) only [go_sem, *]; try rfl))); (· (first | with_reducible assumption | rfl))) | ((with_reducible apply st1); (· (first | with_reducible assumption | (simp (disch := omega) only [go_sem, *]; try rfl))); (· simp); (· rfl)) | with_reducible refine ifT rfl ?_ | with_reducible refine ifF (not_not_intro rfl) ?_ | with_reducible refine ifT (by omega) ?_ | with_reducible refine ifF (by omega) ?_)
    exact rfl
end Go.Vit
