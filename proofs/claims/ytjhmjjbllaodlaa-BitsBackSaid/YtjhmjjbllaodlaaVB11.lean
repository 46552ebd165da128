/- The law BitsBack: what is laid is read by the same calls. -/
import Derived.Test.YtjhmjjbllaodlaaVB10
set_option linter.unusedVariables false
set_option linter.unusedSimpArgs false
set_option linter.unusedSimpArgs false
set_option maxRecDepth 20000
namespace Go.Vit
open Go.Proofs
/-! ### The plain law -/
def layAll (os : List (Bool × Int × Int)) (k : Nat) : Nat × Nat := (os.take k).foldl layOp (0, 0)
theorem layAll_succ {os : List (Bool × Int × Int)} {k : Nat} (h : k < os.length) : layAll os (k + 1) = layOp (layAll os k) os[k] := by
  unfold layAll
  rw [List.take_succ_eq_append_getElem h, List.foldl_append]; rfl
theorem layOp_lt {p : Nat × Nat} (o : Bool × Int × Int) (h : p.1 < 2 ^ p.2) : (layOp p o).1 < 2 ^ (layOp p o).2 := by
  unfold layOp
  split
  · exact layB_lt _ h
  · exact lay_lt _ _ h
theorem layAll_lt {os : List (Bool × Int × Int)} : ∀ {k : Nat}, k ≤ os.length → (layAll os k).1 < 2 ^ (layAll os k).2
  | 0, _ => by simp [layAll]
  | k + 1, h => by rw [layAll_succ (by omega)]; exact layOp_lt _ (layAll_lt (by omega))
theorem layAll_le {os : List (Bool × Int × Int)} : ∀ {k : Nat}, k ≤ os.length → (layAll os k).2 ≤ 500 * k
  | 0, _ => by simp [layAll]
  | k + 1, h => by rw [layAll_succ (by omega)]; have := layOp_le (layAll os k) os[k]; have := layAll_le (os := os) (k := k) (by omega); omega
/-- What was laid stays, and more comes behind it. -/
def Front (p q : Nat × Nat) : Prop := p.2 ≤ q.2 ∧ ∃ z, q.1 = p.1 + z * 2 ^ p.2
theorem Front.refl (p : Nat × Nat) : Front p p := ⟨Nat.le_refl _, 0, by simp⟩
theorem Front.trans {p q r : Nat × Nat} (h : Front p q) (h' : Front q r) : Front p r := by
  obtain ⟨h1, z, h2⟩ := h
  obtain ⟨h3, y, h4⟩ := h'
  refine ⟨Nat.le_trans h1 h3, z + y * 2 ^ (q.2 - p.2), ?_⟩
  rw [h4, h2, Nat.add_mul, Nat.mul_assoc, ← Nat.pow_add, Nat.sub_add_cancel h1, Nat.add_assoc]
theorem layOp_front (p : Nat × Nat) (o : Bool × Int × Int) : Front p (layOp p o) := by
  unfold layOp
  split
  · refine ⟨by unfold layB; dsimp only; omega, num (opText o.2.1 o.2.2) * 2 ^ (8 * ((p.2 + 7) / 8) - p.2), ?_⟩
    unfold layB; dsimp only
    rw [Nat.mul_assoc, ← Nat.pow_add, Nat.sub_add_cancel (by omega)]
  · unfold lay
    split
    · exact .refl p
    · exact ⟨Nat.le_add_right _ _, _, rfl⟩
theorem layAll_front {os : List (Bool × Int × Int)} {k : Nat} : ∀ {m : Nat}, k ≤ m → m ≤ os.length → Front (layAll os k) (layAll os m)
  | 0, h, _ => by obtain rfl : k = 0 := by omega
                  exact .refl _
  | m + 1, h, hm => by
    rcases Nat.eq_or_lt_of_le h with rfl | h
    · exact .refl _
    · rw [layAll_succ (by omega)]
      exact (layAll_front (by omega) (by omega)).trans (layOp_front _ _)
theorem front_div {p q : Nat × Nat} (h : Front p q) {m : Nat} (hm : m ≤ p.2) : ∃ z, q.1 / 2 ^ m = p.1 / 2 ^ m + z * 2 ^ (p.2 - m) := by
  obtain ⟨_, z, hz⟩ := h
  exact ⟨z, by rw [hz, add_div_pow _ _ hm]⟩
theorem read_bits {p q : Nat × Nat} {v : Int} {n : Nat} (hn : n ≤ 24) (hp : p.1 < 2 ^ p.2) (h : Front (lay p.1 p.2 v n) q) : rdBits (text q.1 q.2) p.2 n = ((v % 2 ^ n).toNat, 0, (lay p.1 p.2 v n).2) := by
  have hl : lay p.1 p.2 v n = (p.1 + (v % 2 ^ n).toNat * 2 ^ p.2, p.2 + n) := by rw [lay, if_neg (by omega), Int.toNat_natCast]
  rw [hl] at h ⊢
  have hq := h.1
  obtain ⟨z, hz⟩ := front_div h (m := p.2) (by dsimp only; omega)
  dsimp only at hq hz
  rw [add_div_pow _ _ (Nat.le_refl _), Nat.div_eq_of_lt hp, Nat.sub_self, Nat.pow_zero, Nat.mul_one, Nat.zero_add, Nat.add_sub_cancel_left] at hz
  rw [rdBits, if_neg (by omega), if_neg (by rw [size_text]; omega), Int.toNat_natCast, val_text (by omega), hz, Nat.add_mul_mod_self_right, Nat.mod_eq_of_lt (mod_pow_lt _ _)]
theorem read_bytes {p q : Nat × Nat} {s : ByteArray} (hp : p.1 < 2 ^ p.2) (h : Front (layB p.1 p.2 s) q) : rdBytes (text q.1 q.2) p.2 (s.size : Nat) = (s, 0, (layB p.1 p.2 s).2) := by
  have hq := h.1
  unfold layB at hq ⊢
  dsimp only at hq ⊢
  have hs := size_text q.1 q.2
  rw [rdBytes, if_neg (by omega), if_neg (by omega), Int.toNat_natCast]
  obtain ⟨a, ha⟩ : ∃ a, (p.2 + 7) / 8 = a := ⟨_, rfl⟩
  rw [ha] at hq ⊢
  have hpa : p.1 < 2 ^ (8 * a) := Nat.lt_of_lt_of_le hp (pow_le (by omega))
  refine Prod.ext ?_ rfl
  refine bytes_ext ?_ fun i hi => ?_
  · rw [size_extract]; dsimp only; omega
  rw [size_extract] at hi
  rw [byteAt_extract _ _ _ _ (by omega), byteAt_text (by omega)]
  have hl : layB p.1 p.2 s = (p.1 + num s * 2 ^ (8 * a), 8 * a + 8 * s.size) := by unfold layB; rw [ha]
  rw [hl] at h
  obtain ⟨z, hz⟩ := front_div h (m := 8 * (a + i)) (by dsimp only; omega)
  dsimp only at hz
  have hb : 8 * (a + i) = 8 * a + 8 * i := by omega
  rw [hz, Nat.add_mod, mul_pow_mod (by omega), Nat.add_zero, Nat.mod_mod, hb, Nat.pow_add, ← Nat.div_div_eq_div_mul, add_div_pow _ _ (Nat.le_refl _), Nat.sub_self, Nat.pow_zero, Nat.mul_one, Nat.div_eq_of_lt hpa, Nat.zero_add, num_byte _ (by omega)]
theorem read_rest {q : Nat × Nat} (hq : q.1 < 2 ^ q.2) {n : Nat} (hn : n = 8 * ((q.2 + 7) / 8) - q.2) : rdBits (text q.1 q.2) q.2 n = (0, 0, q.2 + n) := by
  rw [rdBits, if_neg (by omega), if_neg (by rw [size_text]; omega), Int.toNat_natCast, val_text (by omega), Nat.div_eq_of_lt hq, Nat.zero_mod]
/-! ### The walk -/
/-- The program's writer with its memory. -/
def Lone (σ σ' : Mem) (w : Nat) (p : Nat × Nat) : Prop := ∃ o, WrP σ' w o p.1 p.2 ∧ (∀ b ∈ o, σ.next ≤ b ∧ b < σ'.next) ∧ σ.Same σ'
theorem Lone.same {σ σ1 σ2 : Mem} {w : Nat} {p : Nat × Nat} (h : Lone σ σ1 w p) (s : σ1.Same σ2) : Lone σ σ2 w p := by
  obtain ⟨o, h1, h2, h3⟩ := h
  exact ⟨o, h1.keep fun b hb => s.get b (h2 b hb).2, fun b hb => ⟨(h2 b hb).1, Nat.lt_of_lt_of_le (h2 b hb).2 s.next⟩, h3.trans s⟩
theorem Lone.step {σ σ1 : Mem} {w : Nat} {p : Nat × Nat} (h : Lone σ σ1 w p) : ∃ o, WrP σ1 w o p.1 p.2 ∧ σ.Same σ1 ∧ ∀ σ2 p', (∃ o', WrP σ2 w o' p'.1 p'.2 ∧ Grow o o' σ1 σ2) → Lone σ σ2 w p' := by
  obtain ⟨o, h1, h2, h3⟩ := h
  refine ⟨o, h1, h3, fun σ2 p' ⟨o', h8, g⟩ => ?_⟩
  obtain ⟨s, hn⟩ := g.same h3 fun b hb => (h2 b hb).1
  exact ⟨o', h8, fun b hb => ⟨hn b hb, g.lt b hb⟩, s⟩
theorem law01_BitsBack (σ : Mem) (l : List AV) (_ : σ.Ro) (hw : Wts PG σ Try.f11.params.toList l) : ACalls PG n_law01_BitsBack l σ fun v _ => isTrue v := by
  obtain ⟨a, os, rfl, ha, hok⟩ := args_ops (show Wts PG σ [37] l by rw [Try.params11] at hw; exact hw)
  clear hw
  obtain ⟨m, hm⟩ : ∃ m, m = min os.length 300 := ⟨_, rfl⟩
  refine ok_law01_BitsBack fun live => ?_
  unfold F_law01_BitsBack
  refine callW_of (bits_New _) ?_
  rintro v σ1 ⟨w, rfl, hw1, hw2, e1, s1⟩
  replace s1 := s1.ob
  simp only [Mem.next_bump] at hw1
  refine join0 (fun σ' => Lone σ σ' w (layAll os m)) ?_ ?_
  · refine loop1 (fun (i : Nat) (k : Int) σ' => k = i ∧ i ≤ m ∧ Lone σ σ' w (layAll os i)) (fun i => m - i) 0 ⟨rfl, by omega, [w], e1.keep fun b _ => rfl, ?_, s1.bump _⟩ ?_
    · simp [Mem.next_bump]; omega
    rintro i k σ2 ⟨rfl, hi, T⟩
    obtain ⟨o, hP, s2, hT⟩ := T.step
    have ha2 := ha.same live s2
    have hle := layAll_le (os := os) (k := i) (by omega)
    unfold F_law01_BitsBack_l2
    refine ops_len ha2 ?_
    refine ifD (fun hlt => ?_) (fun hge => ?_)
    · have hlt' : i < os.length := by omega
      obtain ⟨b, rfl, hb⟩ := ops_at ha hlt'
      obtain ⟨c0, c1, c2⟩ := ops_cell hlt'
      have hb2 := s2.keep hb (live.lt hb)
      have hok' := hok os[i] (List.getElem_mem hlt')
      have hnext := layAll_succ hlt'
      refine ifD (fun h3 => ?_) (fun h3 => ?_)
      · repeat (first | refine To.go ?_ | with_reducible refine And.intro (by first | omega | exact ⟨rfl, rfl⟩) ?_ | ((with_reducible apply opt); (· (first | with_reducible assumption | rfl))) | ((with_reducible apply ldrw); (· (first | with_reducible assumption | (simp (disch := omega) only [go_sem, *]; try rfl))); (· (first | with_reducible assumption | rfl))) | ((with_reducible apply ldro); (· (first | with_reducible assumption | (simp (disch := omega) only [go_sem, *]; try rfl))); (· (first | with_reducible assumption | rfl))) | ((with_reducible apply st1); (· (first | with_reducible assumption | (simp (disch := omega) only [go_sem, *]; try rfl))); (· simp); (· rfl)) | with_reducible refine ifT rfl ?_ | with_reducible refine ifF (not_not_intro rfl) ?_ | with_reducible refine ifT (by omega) ?_ | with_reducible refine ifF (by omega) ?_)
        refine join0 (fun σ' => Lone σ σ' w (layAll os (i + 1))) ?_ ?_
        · rw [hnext]
          refine ifI (fun hwhole => ?_) (fun hbits => ?_)
          · rw [layOp, if_pos hwhole]
            repeat (first | refine To.go ?_ | with_reducible refine And.intro (by first | omega | exact ⟨rfl, rfl⟩) ?_ | ((with_reducible apply opt); (· (first | with_reducible assumption | rfl))) | ((with_reducible apply ldrw); (· (first | with_reducible assumption | (simp (disch := omega) only [go_sem, *]; try rfl))); (· (first | with_reducible assumption | rfl))) | ((with_reducible apply ldro); (· (first | with_reducible assumption | (simp (disch := omega) only [go_sem, *]; try rfl))); (· (first | with_reducible assumption | rfl))) | ((with_reducible apply st1); (· (first | with_reducible assumption | (simp (disch := omega) only [go_sem, *]; try rfl))); (· simp); (· rfl)) | with_reducible refine ifT rfl ?_ | with_reducible refine ifF (not_not_intro rfl) ?_ | with_reducible refine ifT (by omega) ?_ | with_reducible refine ifF (by omega) ?_)
            refine ldn_op hb2 hlt' ?_
            refine callW_of (law01_Op_text (b := os[i].1) (n := os[i].2.1) (v := os[i].2.2) hok' _) ?_
            rintro v σ3 ⟨rfl, s3⟩
            have T3 := T.same s3.ob
            obtain ⟨o, hP, s4, hT⟩ := T3.step
            repeat (first | refine To.go ?_ | with_reducible refine And.intro (by first | omega | exact ⟨rfl, rfl⟩) ?_ | ((with_reducible apply opt); (· (first | with_reducible assumption | rfl))) | ((with_reducible apply ldrw); (· (first | with_reducible assumption | (simp (disch := omega) only [go_sem, *]; try rfl))); (· (first | with_reducible assumption | rfl))) | ((with_reducible apply ldro); (· (first | with_reducible assumption | (simp (disch := omega) only [go_sem, *]; try rfl))); (· (first | with_reducible assumption | rfl))) | ((with_reducible apply st1); (· (first | with_reducible assumption | (simp (disch := omega) only [go_sem, *]; try rfl))); (· simp); (· rfl)) | with_reducible refine ifT rfl ?_ | with_reducible refine ifF (not_not_intro rfl) ?_ | with_reducible refine ifT (by omega) ?_ | with_reducible refine ifF (by omega) ?_)
            refine callW_of (bits_Writer_Bytes hP (by omega) (opText_le _ _)) ?_
            rintro v σ4 ⟨rfl, hr⟩
            exact hT σ4 (layB (layAll os i).1 (layAll os i).2 (opText os[i].2.1 os[i].2.2)) hr
          · rw [layOp, if_neg (by rw [hbits]; decide)]
            repeat (first | refine To.go ?_ | with_reducible refine And.intro (by first | omega | exact ⟨rfl, rfl⟩) ?_ | ((with_reducible apply opt); (· (first | with_reducible assumption | rfl))) | ((with_reducible apply ldrw); (· (first | with_reducible assumption | (simp (disch := omega) only [go_sem, *]; try rfl))); (· (first | with_reducible assumption | rfl))) | ((with_reducible apply ldro); (· (first | with_reducible assumption | (simp (disch := omega) only [go_sem, *]; try rfl))); (· (first | with_reducible assumption | rfl))) | ((with_reducible apply st1); (· (first | with_reducible assumption | (simp (disch := omega) only [go_sem, *]; try rfl))); (· simp); (· rfl)) | with_reducible refine ifT rfl ?_ | with_reducible refine ifF (not_not_intro rfl) ?_ | with_reducible refine ifT (by omega) ?_ | with_reducible refine ifF (by omega) ?_)
            obtain ⟨o, hP, s4, hT⟩ := (T.same ((Mem.Same.refl σ2).bump 25)).step
            refine callW_of (bits_Writer_Bits hP (by omega) hok'.2.1 hok'.2.2) ?_
            rintro v σ4 ⟨rfl, hr⟩
            exact hT σ4 (lay (layAll os i).1 (layAll os i).2 os[i].2.2 os[i].2.1) hr
        · rintro σ5 T5
          unfold F_law01_BitsBack_j4
          repeat (first | refine To.go ?_ | with_reducible refine And.intro (by first | omega | exact ⟨rfl, rfl⟩) ?_ | ((with_reducible apply opt); (· (first | with_reducible assumption | rfl))) | ((with_reducible apply ldrw); (· (first | with_reducible assumption | (simp (disch := omega) only [go_sem, *]; try rfl))); (· (first | with_reducible assumption | rfl))) | ((with_reducible apply ldro); (· (first | with_reducible assumption | (simp (disch := omega) only [go_sem, *]; try rfl))); (· (first | with_reducible assumption | rfl))) | ((with_reducible apply st1); (· (first | with_reducible assumption | (simp (disch := omega) only [go_sem, *]; try rfl))); (· simp); (· rfl)) | with_reducible refine ifT rfl ?_ | with_reducible refine ifF (not_not_intro rfl) ?_ | with_reducible refine ifT (by omega) ?_ | with_reducible refine ifF (by omega) ?_)
          exact again ⟨i + 1, ⟨by omega, by omega, T5.same ((Mem.Same.refl σ5).bump 3)⟩, by omega⟩
      · obtain rfl : i = m := by omega
        exact T.same ((Mem.Same.refl σ2).bump 8)
    · obtain rfl : i = m := by omega
      exact T.same ((Mem.Same.refl σ2).bump 8)
  rintro σ2 T
  unfold F_law01_BitsBack_j1
  have hle := layAll_le (os := os) (k := m) (by omega)
  have hmlt := layAll_lt (os := os) (k := m) (by omega)
  obtain ⟨o, hP, s2, _⟩ := (T.same ((Mem.Same.refl σ2).bump 4)).step
  refine callW_of (bits_Writer_Text hP (by omega)) ?_
  rintro v σ3 ⟨rfl, s3⟩
  have s3 := s2.trans s3
  repeat (first | refine To.go ?_ | with_reducible refine And.intro (by first | omega | exact ⟨rfl, rfl⟩) ?_ | ((with_reducible apply opt); (· (first | with_reducible assumption | rfl))) | ((with_reducible apply ldrw); (· (first | with_reducible assumption | (simp (disch := omega) only [go_sem, *]; try rfl))); (· (first | with_reducible assumption | rfl))) | ((with_reducible apply ldro); (· (first | with_reducible assumption | (simp (disch := omega) only [go_sem, *]; try rfl))); (· (first | with_reducible assumption | rfl))) | ((with_reducible apply st1); (· (first | with_reducible assumption | (simp (disch := omega) only [go_sem, *]; try rfl))); (· simp); (· rfl)) | with_reducible refine ifT rfl ?_ | with_reducible refine ifF (not_not_intro rfl) ?_ | with_reducible refine ifT (by omega) ?_ | with_reducible refine ifF (by omega) ?_)
  have hfront : ∀ k, k ≤ m → Front (layAll os k) (layAll os m) := fun k hk => layAll_front hk (by omega)
  obtain ⟨q, hq⟩ : ∃ q, layAll os m = q := ⟨_, rfl⟩
  rw [hq] at hle hmlt hfront ⊢
  have hts : (text q.1 q.2).size ≤ reachBytes := by rw [size_text, reach_eq]; omega
  have hts2 := size_text q.1 q.2
  refine callW_of (bits_Read _ _) ?_
  rintro v σ4 ⟨r, rfl, hr1, hr2, e4, s4⟩
  have s5 := s3.trans s4
  have hrn : σ.next ≤ r := Nat.le_trans s3.next hr1
  let R : Nat → Mem → Prop := fun k σ' => σ'.get r = some (rdP (text q.1 q.2) (layAll os k).2) ∧ Mem.Only [r] σ σ' ∧ r < σ'.next
  have hRb : ∀ {k σ'} (n : Nat), R k σ' → R k (σ'.bump n) := fun n ⟨h1, h2, h3⟩ => ⟨h1, h2.bump n, Nat.lt_of_lt_of_le h3 (Nat.le_add_right _ _)⟩
  have hRs : ∀ {k σ' σ''}, R k σ' → σ'.Same σ'' → R k σ'' := fun ⟨h1, h2, h3⟩ s => ⟨s.keep h1 h3, h2.then s, Nat.lt_of_lt_of_le h3 s.next⟩
  have start : R 0 (σ4.bump 1) := hRb 1 ⟨e4, s5.only _, hr2⟩
  refine join0 (R m) ?_ ?_
  · refine loop1 (fun (i : Nat) (k : Int) σ' => k = i ∧ i ≤ m ∧ R i σ') (fun i => m - i) 0 ⟨rfl, by omega, start⟩ ?_
    rintro i k σ6 ⟨rfl, hi, e6, o6, n6⟩
    have ha2 := ha.keep live o6 (by simp; omega)
    unfold F_law01_BitsBack_l1
    refine ops_len ha2 ?_
    refine ifD (fun hlt => ?_) (fun hge => ?_)
    · have hlt' : i < os.length := by omega
      obtain ⟨b, rfl, hb⟩ := ops_at ha hlt'
      obtain ⟨c0, c1, c2⟩ := ops_cell hlt'
      have hbn := live.lt hb
      have hb6 := o6.keep hb hbn (by simp; omega)
      have hok' := hok os[i] (List.getElem_mem hlt')
      have hnext := layAll_succ hlt'
      have hplt := layAll_lt (os := os) (k := i) (by omega)
      refine ifD (fun h3 => ?_) (fun h3 => ?_)
      · have hfi := hfront i (by omega)
        have hfn := hfront (i + 1) (by omega)
        refine join0 (R (i + 1)) ?_ ?_
        · repeat (first | refine To.go ?_ | with_reducible refine And.intro (by first | omega | exact ⟨rfl, rfl⟩) ?_ | ((with_reducible apply opt); (· (first | with_reducible assumption | rfl))) | ((with_reducible apply ldrw); (· (first | with_reducible assumption | (simp (disch := omega) only [go_sem, *]; try rfl))); (· (first | with_reducible assumption | rfl))) | ((with_reducible apply ldro); (· (first | with_reducible assumption | (simp (disch := omega) only [go_sem, *]; try rfl))); (· (first | with_reducible assumption | rfl))) | ((with_reducible apply st1); (· (first | with_reducible assumption | (simp (disch := omega) only [go_sem, *]; try rfl))); (· simp); (· rfl)) | with_reducible refine ifT rfl ?_ | with_reducible refine ifF (not_not_intro rfl) ?_ | with_reducible refine ifT (by omega) ?_ | with_reducible refine ifF (by omega) ?_)
          have hpos : (layAll os i).2 ≤ 8 * (text q.1 q.2).size := by have := hfi.1; omega
          refine ifI (fun hwhole => ?_) (fun hbits => ?_)
          · rw [hnext, layOp, if_pos hwhole] at hfn
            have hrd := read_bytes hplt hfn
            repeat (first | refine To.go ?_ | with_reducible refine And.intro (by first | omega | exact ⟨rfl, rfl⟩) ?_ | ((with_reducible apply opt); (· (first | with_reducible assumption | rfl))) | ((with_reducible apply ldrw); (· (first | with_reducible assumption | (simp (disch := omega) only [go_sem, *]; try rfl))); (· (first | with_reducible assumption | rfl))) | ((with_reducible apply ldro); (· (first | with_reducible assumption | (simp (disch := omega) only [go_sem, *]; try rfl))); (· (first | with_reducible assumption | rfl))) | ((with_reducible apply st1); (· (first | with_reducible assumption | (simp (disch := omega) only [go_sem, *]; try rfl))); (· simp); (· rfl)) | with_reducible refine ifT rfl ?_ | with_reducible refine ifF (not_not_intro rfl) ?_ | with_reducible refine ifT (by omega) ?_ | with_reducible refine ifF (by omega) ?_)
            refine ldn_op hb6 hlt' ?_
            refine callW_of (law01_Op_text (b := os[i].1) (n := os[i].2.1) (v := os[i].2.2) hok' _) ?_
            rintro v σ7 ⟨rfl, s7⟩
            replace s7 := s7.ob
            repeat (first | refine To.go ?_ | with_reducible refine And.intro (by first | omega | exact ⟨rfl, rfl⟩) ?_ | ((with_reducible apply opt); (· (first | with_reducible assumption | rfl))) | ((with_reducible apply ldrw); (· (first | with_reducible assumption | (simp (disch := omega) only [go_sem, *]; try rfl))); (· (first | with_reducible assumption | rfl))) | ((with_reducible apply ldro); (· (first | with_reducible assumption | (simp (disch := omega) only [go_sem, *]; try rfl))); (· (first | with_reducible assumption | rfl))) | ((with_reducible apply st1); (· (first | with_reducible assumption | (simp (disch := omega) only [go_sem, *]; try rfl))); (· simp); (· rfl)) | with_reducible refine ifT rfl ?_ | with_reducible refine ifF (not_not_intro rfl) ?_ | with_reducible refine ifT (by omega) ?_ | with_reducible refine ifF (by omega) ?_)
            refine callW_of (bits_Reader_Bytes hts (s7.keep e6 n6) hpos) ?_
            rintro v σ8 ⟨rfl, e8, o8⟩
            rw [hrd] at e8 ⊢
            dsimp only at e8 ⊢
            repeat (first | refine To.go ?_ | with_reducible refine And.intro (by first | omega | exact ⟨rfl, rfl⟩) ?_ | ((with_reducible apply opt); (· (first | with_reducible assumption | rfl))) | ((with_reducible apply ldrw); (· (first | with_reducible assumption | (simp (disch := omega) only [go_sem, *]; try rfl))); (· (first | with_reducible assumption | rfl))) | ((with_reducible apply ldro); (· (first | with_reducible assumption | (simp (disch := omega) only [go_sem, *]; try rfl))); (· (first | with_reducible assumption | rfl))) | ((with_reducible apply st1); (· (first | with_reducible assumption | (simp (disch := omega) only [go_sem, *]; try rfl))); (· simp); (· rfl)) | with_reducible refine ifT rfl ?_ | with_reducible refine ifF (not_not_intro rfl) ?_ | with_reducible refine ifT (by omega) ?_ | with_reducible refine ifF (by omega) ?_)
            have o78 := ((o6.then s7).trans o8)
            have hb8 := o78.keep hb hbn (by simp; omega)
            refine ldn_op hb8 hlt' ?_
            refine callW_of (law01_Op_text (b := os[i].1) (n := os[i].2.1) (v := os[i].2.2) hok' _) ?_
            rintro v σ9 ⟨rfl, s9⟩
            replace s9 := s9.ob
            repeat (first | refine To.go ?_ | with_reducible refine And.intro (by first | omega | exact ⟨rfl, rfl⟩) ?_ | ((with_reducible apply opt); (· (first | with_reducible assumption | rfl))) | ((with_reducible apply ldrw); (· (first | with_reducible assumption | (simp (disch := omega) only [go_sem, *]; try rfl))); (· (first | with_reducible assumption | rfl))) | ((with_reducible apply ldro); (· (first | with_reducible assumption | (simp (disch := omega) only [go_sem, *]; try rfl))); (· (first | with_reducible assumption | rfl))) | ((with_reducible apply st1); (· (first | with_reducible assumption | (simp (disch := omega) only [go_sem, *]; try rfl))); (· simp); (· rfl)) | with_reducible refine ifT rfl ?_ | with_reducible refine ifF (not_not_intro rfl) ?_ | with_reducible refine ifT (by omega) ?_ | with_reducible refine ifF (by omega) ?_)
            have n8 : r < σ8.next := Nat.lt_of_lt_of_le n6 (Nat.le_trans s7.next o8.next)
            refine ⟨?_, o78.then s9, Nat.lt_of_lt_of_le n8 s9.next⟩
            rw [hnext, layOp, if_pos hwhole]
            exact s9.keep e8 n8
          · rw [hnext, layOp, if_neg (by rw [hbits]; decide)] at hfn
            refine ifD (fun h0 => ?_) (fun h0 => ?_)
            · refine hRb _ ⟨?_, o6, n6⟩
              rw [hnext, layOp, if_neg (by rw [hbits]; decide), lay, if_pos (.inl h0)]
              exact e6
            refine ifD (fun h24 => ?_) (fun h24 => ?_)
            · refine hRb _ ⟨?_, o6, n6⟩
              rw [hnext, layOp, if_neg (by rw [hbits]; decide), lay, if_pos (.inr h24)]
              exact e6
            obtain ⟨n, hn⟩ := int_nat (by omega : 0 ≤ os[i].2.1)
            rw [hn] at hfn h24 ⊢
            have hrd := read_bits (n := n) (by omega) hplt hfn
            repeat (first | refine To.go ?_ | with_reducible refine And.intro (by first | omega | exact ⟨rfl, rfl⟩) ?_ | ((with_reducible apply opt); (· (first | with_reducible assumption | rfl))) | ((with_reducible apply ldrw); (· (first | with_reducible assumption | (simp (disch := omega) only [go_sem, *]; try rfl))); (· (first | with_reducible assumption | rfl))) | ((with_reducible apply ldro); (· (first | with_reducible assumption | (simp (disch := omega) only [go_sem, *]; try rfl))); (· (first | with_reducible assumption | rfl))) | ((with_reducible apply st1); (· (first | with_reducible assumption | (simp (disch := omega) only [go_sem, *]; try rfl))); (· simp); (· rfl)) | with_reducible refine ifT rfl ?_ | with_reducible refine ifF (not_not_intro rfl) ?_ | with_reducible refine ifT (by omega) ?_ | with_reducible refine ifF (by omega) ?_)
            refine callW_of (bits_Reader_Bits hts e6 hpos) ?_
            rintro v σ8 ⟨rfl, e8, o8⟩
            rw [hrd] at e8 ⊢
            dsimp only at e8 ⊢
            replace o8 := o8.ob
            have o78 := o6.trans o8
            have hb8 := o78.keep hb hbn (by simp; omega)
            have hp : 2 ^ n ≤ 2 ^ 24 := pow_le (by omega)
            have hp1 := Nat.pow_pos (n := n) (show 0 < 2 by decide)
            have hmask := bits_mask (n := n) hok'.2.1 hok'.2.2 (by omega)
            repeat (first | refine To.go ?_ | with_reducible refine And.intro (by first | omega | exact ⟨rfl, rfl⟩) ?_ | ((with_reducible apply opt); (· (first | with_reducible assumption | rfl))) | ((with_reducible apply ldrw); (· (first | with_reducible assumption | (simp (disch := omega) only [go_sem, *]; try rfl))); (· (first | with_reducible assumption | rfl))) | ((with_reducible apply ldro); (· (first | with_reducible assumption | (simp (disch := omega) only [go_sem, *]; try rfl))); (· (first | with_reducible assumption | rfl))) | ((with_reducible apply st1); (· (first | with_reducible assumption | (simp (disch := omega) only [go_sem, *]; try rfl))); (· simp); (· rfl)) | with_reducible refine ifT rfl ?_ | with_reducible refine ifF (not_not_intro rfl) ?_ | with_reducible refine ifT (by omega) ?_ | with_reducible refine ifF (by omega) ?_)
            rw [Int.toNat_natCast, show (1 * 2 ^ n : Int) = ((2 ^ n : Nat) : Int) from by simp]
            repeat (first | refine To.go ?_ | with_reducible refine And.intro (by first | omega | exact ⟨rfl, rfl⟩) ?_ | ((with_reducible apply opt); (· (first | with_reducible assumption | rfl))) | ((with_reducible apply ldrw); (· (first | with_reducible assumption | (simp (disch := omega) only [go_sem, *]; try rfl))); (· (first | with_reducible assumption | rfl))) | ((with_reducible apply ldro); (· (first | with_reducible assumption | (simp (disch := omega) only [go_sem, *]; try rfl))); (· (first | with_reducible assumption | rfl))) | ((with_reducible apply st1); (· (first | with_reducible assumption | (simp (disch := omega) only [go_sem, *]; try rfl))); (· simp); (· rfl)) | with_reducible refine ifT rfl ?_ | with_reducible refine ifF (not_not_intro rfl) ?_ | with_reducible refine ifT (by omega) ?_ | with_reducible refine ifF (by omega) ?_)
            rw [show (((2 ^ n : Nat) : Int) - 1) = ((2 ^ n - 1 : Nat) : Int) from by omega, hmask]
            repeat (first | refine To.go ?_ | with_reducible refine And.intro (by first | omega | exact ⟨rfl, rfl⟩) ?_ | ((with_reducible apply opt); (· (first | with_reducible assumption | rfl))) | ((with_reducible apply ldrw); (· (first | with_reducible assumption | (simp (disch := omega) only [go_sem, *]; try rfl))); (· (first | with_reducible assumption | rfl))) | ((with_reducible apply ldro); (· (first | with_reducible assumption | (simp (disch := omega) only [go_sem, *]; try rfl))); (· (first | with_reducible assumption | rfl))) | ((with_reducible apply st1); (· (first | with_reducible assumption | (simp (disch := omega) only [go_sem, *]; try rfl))); (· simp); (· rfl)) | with_reducible refine ifT rfl ?_ | with_reducible refine ifF (not_not_intro rfl) ?_ | with_reducible refine ifT (by omega) ?_ | with_reducible refine ifF (by omega) ?_)
            refine hRb _ ⟨?_, o78, Nat.lt_of_lt_of_le n6 o8.next⟩
            rw [hnext, layOp, if_neg (by rw [hbits]; decide), hn]
            exact e8
        · rintro σ7 R7
          unfold F_law01_BitsBack_j3
          repeat (first | refine To.go ?_ | with_reducible refine And.intro (by first | omega | exact ⟨rfl, rfl⟩) ?_ | ((with_reducible apply opt); (· (first | with_reducible assumption | rfl))) | ((with_reducible apply ldrw); (· (first | with_reducible assumption | (simp (disch := omega) only [go_sem, *]; try rfl))); (· (first | with_reducible assumption | rfl))) | ((with_reducible apply ldro); (· (first | with_reducible assumption | (simp (disch := omega) only [go_sem, *]; try rfl))); (· (first | with_reducible assumption | rfl))) | ((with_reducible apply st1); (· (first | with_reducible assumption | (simp (disch := omega) only [go_sem, *]; try rfl))); (· simp); (· rfl)) | with_reducible refine ifT rfl ?_ | with_reducible refine ifF (not_not_intro rfl) ?_ | with_reducible refine ifT (by omega) ?_ | with_reducible refine ifF (by omega) ?_)
          exact again ⟨i + 1, ⟨by omega, by omega, hRb _ R7⟩, by omega⟩
      · obtain rfl : i = m := by omega
        exact hRb _ ⟨e6, o6, n6⟩
    · obtain rfl : i = m := by omega
      exact hRb _ ⟨e6, o6, n6⟩
  rintro σ6 ⟨e6, o6, n6⟩
  unfold F_law01_BitsBack_j2
  rw [hq] at e6
  refine callW_of (bits_Reader_Left hts e6 (by omega)) ?_
  rintro v σ7 ⟨rfl, s7⟩
  replace s7 := s7.ob
  repeat (first | refine To.go ?_ | with_reducible refine And.intro (by first | omega | exact ⟨rfl, rfl⟩) ?_ | ((with_reducible apply opt); (· (first | with_reducible assumption | rfl))) | ((with_reducible apply ldrw); (· (first | with_reducible assumption | (simp (disch := omega) only [go_sem, *]; try rfl))); (· (first | with_reducible assumption | rfl))) | ((with_reducible apply ldro); (· (first | with_reducible assumption | (simp (disch := omega) only [go_sem, *]; try rfl))); (· (first | with_reducible assumption | rfl))) | ((with_reducible apply st1); (· (first | with_reducible assumption | (simp (disch := omega) only [go_sem, *]; try rfl))); (· simp); (· rfl)) | with_reducible refine ifT rfl ?_ | with_reducible refine ifF (not_not_intro rfl) ?_ | with_reducible refine ifT (by omega) ?_ | with_reducible refine ifF (by omega) ?_)
  have hrd := read_rest hmlt (n := 8 * (text q.1 q.2).size - q.2) (by omega)
  refine callW_of (bits_Reader_Bits hts (s7.keep e6 n6) (by omega)) ?_
  rintro v σ8 ⟨rfl, e8, o8⟩
  rw [hrd] at e8 ⊢
  repeat (first | refine To.go ?_ | with_reducible refine And.intro (by first | omega | exact ⟨rfl, rfl⟩) ?_ | ((with_reducible apply opt); (· (first | with_reducible assumption | rfl))) | ((with_reducible apply ldrw); (· (first | with_reducible assumption | (simp (disch := omega) only [go_sem, *]; try rfl))); (· (first | with_reducible assumption | rfl))) | ((with_reducible apply ldro); (· (first | with_reducible assumption | (simp (disch := omega) only [go_sem, *]; try rfl))); (· (first | with_reducible assumption | rfl))) | ((with_reducible apply st1); (· (first | with_reducible assumption | (simp (disch := omega) only [go_sem, *]; try rfl))); (· simp); (· rfl)) | with_reducible refine ifT rfl ?_ | with_reducible refine ifF (not_not_intro rfl) ?_ | with_reducible refine ifT (by omega) ?_ | with_reducible refine ifF (by omega) ?_)
  refine callW_of (law01_awake _) ?_
  rintro v σ3 ⟨rfl, _⟩
  repeat (first | refine To.go ?_ | with_reducible refine And.intro (by first | omega | exact ⟨rfl, rfl⟩) ?_ | ((with_reducible apply opt); (· (first | with_reducible assumption | rfl))) | ((with_reducible apply ldrw); (· (first | with_reducible assumption | (simp (disch := omega) only [go_sem, *]; try rfl))); (· (first | with_reducible assumption | rfl))) | ((with_reducible apply ldro); (· (first | with_reducible assumption | (simp (disch := omega) only [go_sem, *]; try rfl))); (· (first | with_reducible assumption | rfl))) | ((with_reducible apply st1); (· (first | with_reducible assumption | (simp (disch := omega) only [go_sem, *]; try rfl))); (· simp); (· rfl)) | with_reducible refine ifT rfl ?_ | with_reducible refine ifF (not_not_intro rfl) ?_ | with_reducible refine ifT (by omega) ?_ | with_reducible refine ifF (by omega) ?_)
  exact rfl
end Go.Vit
