/- The writers: whole bytes, the text, a new one; the text of a call. -/
import Derived.Test.YtjhmjjbllaodlaaVB7
import Derived.Test.YtjhmjjbllaodlaaVB6
set_option linter.unusedVariables false
set_option linter.unusedSimpArgs false
set_option linter.unusedSimpArgs false
set_option maxRecDepth 20000
namespace Go.Vit
open Go.Proofs
theorem bits_Writer_Bytes {w : Nat} {o : List Nat} {W N : Nat} {s : ByteArray} {σ : Mem} (h : WrP σ w o W N) (hN : N ≤ 2 ^ 40) (hs : s.size ≤ 2 ^ 40) :
    ACalls PG n_bits_Writer_Bytes [.ptr w 0, .str s] σ fun r σ' => r = .tup [] ∧ ∃ o', WrP σ' w o' (layB W N s).1 (layB W N s).2 ∧ Grow o o' σ σ' := by
  refine ok_bits_Writer_Bytes fun live => ?_
  unfold F_bits_Writer_Bytes
  have hlt := h.2.lt live
  have hI := h.2
  obtain ⟨v, rfl, hw, e, own⟩ := hI
  repeat (first | refine To.go ?_ | with_reducible refine And.intro (by first | omega | exact ⟨rfl, rfl⟩) ?_ | ((with_reducible apply opt); (· (first | with_reducible assumption | rfl))) | ((with_reducible apply ldrw); (· (first | with_reducible assumption | (simp (disch := omega) only [go_sem, *]; try rfl))); (· (first | with_reducible assumption | rfl))) | ((with_reducible apply ldro); (· (first | with_reducible assumption | (simp (disch := omega) only [go_sem, *]; try rfl))); (· (first | with_reducible assumption | rfl))) | ((with_reducible apply st1); (· (first | with_reducible assumption | (simp (disch := omega) only [go_sem, *]; try rfl))); (· simp); (· rfl)) | with_reducible refine ifT rfl ?_ | with_reducible refine ifF (not_not_intro rfl) ?_ | with_reducible refine ifT (by omega) ?_ | with_reducible refine ifF (by omega) ?_)
  have hk : (8 - ((N - 8 * (N / 8) : Nat) : Int)) % 8 = ((8 * ((N + 7) / 8) - N : Nat) : Int) := by omega
  rw [hk]
  refine callW_of (bits_Writer_Bits (n := ((8 * ((N + 7) / 8) - N : Nat) : Int)) (o := w :: blkOf v) (W := W) (N := N) ?_ hN (by decide) (by decide)) ?_
  · exact ⟨h.1, h.2.keep fun b _ => rfl⟩
  rintro r σ1 ⟨rfl, o1, hW1, g1⟩
  replace g1 := g1.ob
  rw [lay_zero W N (by omega)] at hW1
  obtain ⟨hWl, v1, rfl, hw1, e1, own1⟩ := hW1
  have hL := layB_lt s h.1
  unfold layB at hL ⊢
  dsimp only at hL hWl e1 own1 ⊢
  rw [show N + (8 * ((N + 7) / 8) - N) = 8 * ((N + 7) / 8) from by omega] at hWl e1 own1
  obtain ⟨k, hk⟩ : ∃ k, (N + 7) / 8 = k := ⟨_, rfl⟩
  rw [hk] at hL hWl e1 own1 ⊢
  rw [show 8 * k / 8 = k from by omega] at e1 own1
  rw [Nat.div_eq_of_lt hWl, Nat.sub_self] at e1
  have hw1n := g1.lt w (by simp)
  repeat (first | refine To.go ?_ | with_reducible refine And.intro (by first | omega | exact ⟨rfl, rfl⟩) ?_ | ((with_reducible apply opt); (· (first | with_reducible assumption | rfl))) | ((with_reducible apply ldrw); (· (first | with_reducible assumption | (simp (disch := omega) only [go_sem, *]; try rfl))); (· (first | with_reducible assumption | rfl))) | ((with_reducible apply ldro); (· (first | with_reducible assumption | (simp (disch := omega) only [go_sem, *]; try rfl))); (· (first | with_reducible assumption | rfl))) | ((with_reducible apply st1); (· (first | with_reducible assumption | (simp (disch := omega) only [go_sem, *]; try rfl))); (· simp); (· rfl)) | with_reducible refine ifT rfl ?_ | with_reducible refine ifF (not_not_intro rfl) ?_ | with_reducible refine ifT (by omega) ?_ | with_reducible refine ifF (by omega) ?_)
  refine OwnS.append (n := k) (m := s.size) (own1.keep fun b _ => rfl) src_str ?_ ?_ (bl_one _) (bl_one _) (by omega) (fun hb => ?_) ?_
  · intro h0
    rw [List.length_eq_zero_iff.1 (show (bytesL s).length = 0 by rw [bytesL_length]; exact h0)]; rfl
  · rw [bl_length, bytesL_length]; omega
  · have := g1.lt _ (List.mem_cons_of_mem _ hb); omega
  intro v' σ3 own3 hn3 hg3 hb3
  simp only [Mem.next_bump] at hn3
  have hw3 : w ∉ blkOf v' := fun hb => by
    rcases hb3 w hb with h | h
    · exact hw1 h
    · omega
  have hneu3 : ∀ b ∈ blkOf v', b ≠ w := fun b hb e => hw3 (e ▸ hb)
  have e3 : σ3.get w = σ1.get w := by rw [hg3 w hw1 (by omega)]; rfl
  rw [e1] at e3
  repeat (first | refine To.go ?_ | with_reducible refine And.intro (by first | omega | exact ⟨rfl, rfl⟩) ?_ | ((with_reducible apply opt); (· (first | with_reducible assumption | rfl))) | ((with_reducible apply ldrw); (· (first | with_reducible assumption | (simp (disch := omega) only [go_sem, *]; try rfl))); (· (first | with_reducible assumption | rfl))) | ((with_reducible apply ldro); (· (first | with_reducible assumption | (simp (disch := omega) only [go_sem, *]; try rfl))); (· (first | with_reducible assumption | rfl))) | ((with_reducible apply st1); (· (first | with_reducible assumption | (simp (disch := omega) only [go_sem, *]; try rfl))); (· simp); (· rfl)) | with_reducible refine ifT rfl ?_ | with_reducible refine ifF (not_not_intro rfl) ?_ | with_reducible refine ifT (by omega) ?_ | with_reducible refine ifF (by omega) ?_)
  refine st1 e3 (by simp) own3.one ?_
  refine ⟨rfl, w :: blkOf v', ⟨hL, v', rfl, hw3, ?_, ?_⟩, ?_⟩
  · rw [gS', show (8 * k + 8 * s.size) / 8 = k + s.size from by omega, show 8 * k + 8 * s.size - 8 * (k + s.size) = 0 from by omega, Nat.div_eq_of_lt (by rw [Nat.mul_add]; exact hL)]; rfl
  · rw [show (8 * k + 8 * s.size) / 8 = k + s.size from by omega, wb_append _ _ hWl, wb_num, ← bl_append]
    exact own3.keep fun b hb => Mem.get_put_ne _ (hneu3 b hb) _
  · refine g1.trans ⟨?_, ?_, ?_⟩
    · have o3 : Mem.Only (w :: blkOf v1) σ1 σ3 := ⟨by omega, fun b hb hn => by
        simp at hn
        rw [hg3 b hn.2 (by omega)]; rfl⟩
      repeat (with_reducible first | assumption | exact Mem.Only.refl _ _ | exact Mem.Same.refl _ | refine Mem.Only.bump ?_ _ | refine Mem.Only.put ?_ (by simp) _ | refine Mem.Only.put ?_ (.inr (by first | omega | (simp only [Mem.next_bump, Mem.next_put]; omega))) _ | refine Mem.Same.bump ?_ _ | refine Mem.Same.put ?_ (by first | omega | (simp only [Mem.next_bump, Mem.next_put]; omega)) _)
    · intro b hb
      rcases List.mem_cons.1 hb with rfl | hb
      · exact .inl (by simp)
      · rcases hb3 b hb with h | h
        · exact .inl (by simp [h])
        · exact .inr (by omega)
    · intro b hb
      simp only [Mem.next_put]
      rcases List.mem_cons.1 hb with rfl | hb
      · omega
      · rcases hb3 b hb with h | h
        · have := g1.lt _ (List.mem_cons_of_mem _ h); omega
        · omega
theorem text_full (W N : Nat) (h : N % 8 = 0) : text W N = ⟨(wb W (N / 8)).toArray⟩ := by
  unfold text; rw [show (N + 7) / 8 = N / 8 from by omega]
theorem text_part (W N : Nat) (h : N % 8 ≠ 0) : text W N = ⟨(wb W (N / 8)).toArray⟩ ++ ⟨[UInt8.ofNat (W / 2 ^ (8 * (N / 8)) % 256)].toArray⟩ := by
  unfold text; rw [show (N + 7) / 8 = N / 8 + 1 from by omega, wb_succ]
  refine bytesL_inj ?_
  rw [bytesL_append, bytesL_mk, bytesL_mk, bytesL_mk]
theorem bits_Writer_Text {w : Nat} {o : List Nat} {W N : Nat} {σ : Mem} (h : WrP σ w o W N) (hN : N ≤ 2 ^ 60) :
    ACalls PG n_bits_Writer_Text [.ptr w 0] σ fun r σ' => r = .str (text W N) ∧ σ.Same σ' := by
  refine ok_bits_Writer_Text fun live => ?_
  unfold F_bits_Writer_Text
  obtain ⟨hWl, v, rfl, hw, e, own⟩ := h
  repeat (first | refine To.go ?_ | with_reducible refine And.intro (by first | omega | exact ⟨rfl, rfl⟩) ?_ | ((with_reducible apply opt); (· (first | with_reducible assumption | rfl))) | ((with_reducible apply ldrw); (· (first | with_reducible assumption | (simp (disch := omega) only [go_sem, *]; try rfl))); (· (first | with_reducible assumption | rfl))) | ((with_reducible apply ldro); (· (first | with_reducible assumption | (simp (disch := omega) only [go_sem, *]; try rfl))); (· (first | with_reducible assumption | rfl))) | ((with_reducible apply st1); (· (first | with_reducible assumption | (simp (disch := omega) only [go_sem, *]; try rfl))); (· simp); (· rfl)) | with_reducible refine ifT rfl ?_ | with_reducible refine ifF (not_not_intro rfl) ?_ | with_reducible refine ifT (by omega) ?_ | with_reducible refine ifF (by omega) ?_)
  refine OwnS.bstr (own.keep fun b _ => rfl) ?_
  repeat (first | refine To.go ?_ | with_reducible refine And.intro (by first | omega | exact ⟨rfl, rfl⟩) ?_ | ((with_reducible apply opt); (· (first | with_reducible assumption | rfl))) | ((with_reducible apply ldrw); (· (first | with_reducible assumption | (simp (disch := omega) only [go_sem, *]; try rfl))); (· (first | with_reducible assumption | rfl))) | ((with_reducible apply ldro); (· (first | with_reducible assumption | (simp (disch := omega) only [go_sem, *]; try rfl))); (· (first | with_reducible assumption | rfl))) | ((with_reducible apply st1); (· (first | with_reducible assumption | (simp (disch := omega) only [go_sem, *]; try rfl))); (· simp); (· rfl)) | with_reducible refine ifT rfl ?_ | with_reducible refine ifF (not_not_intro rfl) ?_ | with_reducible refine ifT (by omega) ?_ | with_reducible refine ifF (by omega) ?_)
  refine join1 (fun (s : ByteArray) σ' => s = text W N ∧ σ.Same σ') ?_ ?_
  · refine ifD (fun h0 => ?_) (fun h0 => ?_)
    · repeat (first | refine To.go ?_ | with_reducible refine And.intro (by first | omega | exact ⟨rfl, rfl⟩) ?_ | ((with_reducible apply opt); (· (first | with_reducible assumption | rfl))) | ((with_reducible apply ldrw); (· (first | with_reducible assumption | (simp (disch := omega) only [go_sem, *]; try rfl))); (· (first | with_reducible assumption | rfl))) | ((with_reducible apply ldro); (· (first | with_reducible assumption | (simp (disch := omega) only [go_sem, *]; try rfl))); (· (first | with_reducible assumption | rfl))) | ((with_reducible apply st1); (· (first | with_reducible assumption | (simp (disch := omega) only [go_sem, *]; try rfl))); (· simp); (· rfl)) | with_reducible refine ifT rfl ?_ | with_reducible refine ifF (not_not_intro rfl) ?_ | with_reducible refine ifT (by omega) ?_ | with_reducible refine ifF (by omega) ?_)
      rw [show (((W / 2 ^ (8 * (N / 8)) : Nat) : Int) % 256) = ((W / 2 ^ (8 * (N / 8)) % 256 : Nat) : Int) from by omega]
      refine bstr_bl (l := [UInt8.ofNat (W / 2 ^ (8 * (N / 8)) % 256)]) (by rw [gS', bl_byte]; rfl) rfl ?_
      refine To.go ?_
      refine And.intro ?_ ?_
      · rw [size_mk, size_mk, wb_length]; simp; omega
      · exact ⟨(text_part W N (by omega)).symm, by repeat (with_reducible first | assumption | exact Mem.Only.refl _ _ | exact Mem.Same.refl _ | refine Mem.Only.bump ?_ _ | refine Mem.Only.put ?_ (by simp) _ | refine Mem.Only.put ?_ (.inr (by first | omega | (simp only [Mem.next_bump, Mem.next_put]; omega))) _ | refine Mem.Same.bump ?_ _ | refine Mem.Same.put ?_ (by first | omega | (simp only [Mem.next_bump, Mem.next_put]; omega)) _)⟩
    · exact ⟨(text_full W N (by omega)).symm, by repeat (with_reducible first | assumption | exact Mem.Only.refl _ _ | exact Mem.Same.refl _ | refine Mem.Only.bump ?_ _ | refine Mem.Only.put ?_ (by simp) _ | refine Mem.Only.put ?_ (.inr (by first | omega | (simp only [Mem.next_bump, Mem.next_put]; omega))) _ | refine Mem.Same.bump ?_ _ | refine Mem.Same.put ?_ (by first | omega | (simp only [Mem.next_bump, Mem.next_put]; omega)) _)⟩
  · rintro s σ1 ⟨rfl, s1⟩
    exact ⟨rfl, by repeat (with_reducible first | assumption | exact Mem.Only.refl _ _ | exact Mem.Same.refl _ | refine Mem.Only.bump ?_ _ | refine Mem.Only.put ?_ (by simp) _ | refine Mem.Only.put ?_ (.inr (by first | omega | (simp only [Mem.next_bump, Mem.next_put]; omega))) _ | refine Mem.Same.bump ?_ _ | refine Mem.Same.put ?_ (by first | omega | (simp only [Mem.next_bump, Mem.next_put]; omega)) _)⟩
theorem bits_New (σ : Mem) : ACalls PG n_bits_New [] σ fun v σ' => ∃ w, v = .ptr w 0 ∧ σ.next ≤ w ∧ w < σ'.next ∧ WrP σ' w [w] 0 0 ∧ σ.Same σ' := by
  refine ok_bits_New fun _ => ?_
  unfold F_bits_New
  repeat (first | refine To.go ?_ | with_reducible refine And.intro (by first | omega | exact ⟨rfl, rfl⟩) ?_ | ((with_reducible apply opt); (· (first | with_reducible assumption | rfl))) | ((with_reducible apply ldrw); (· (first | with_reducible assumption | (simp (disch := omega) only [go_sem, *]; try rfl))); (· (first | with_reducible assumption | rfl))) | ((with_reducible apply ldro); (· (first | with_reducible assumption | (simp (disch := omega) only [go_sem, *]; try rfl))); (· (first | with_reducible assumption | rfl))) | ((with_reducible apply st1); (· (first | with_reducible assumption | (simp (disch := omega) only [go_sem, *]; try rfl))); (· simp); (· rfl)) | with_reducible refine ifT rfl ?_ | with_reducible refine ifF (not_not_intro rfl) ?_ | with_reducible refine ifT (by omega) ?_ | with_reducible refine ifF (by omega) ?_)
  refine ⟨_, rfl, by omega, by simp only [Mem.next_put, Mem.next_bump]; omega, ⟨by decide, .nils, rfl, by simp [blkOf], ?_, ?_⟩, by repeat (with_reducible first | assumption | exact Mem.Only.refl _ _ | exact Mem.Same.refl _ | refine Mem.Only.bump ?_ _ | refine Mem.Only.put ?_ (by simp) _ | refine Mem.Only.put ?_ (.inr (by first | omega | (simp only [Mem.next_bump, Mem.next_put]; omega))) _ | refine Mem.Same.bump ?_ _ | refine Mem.Same.put ?_ (by first | omega | (simp only [Mem.next_bump, Mem.next_put]; omega)) _)⟩
  · rw [gS']; rfl
  · exact .inl ⟨rfl, rfl, rfl⟩
def WrR (σ : Mem) (x : Nat) (o : List Nat) (W N : Nat) : Prop :=
  W < 2 ^ N ∧ ∃ v, o = x :: blkOf v ∧ x ∉ blkOf v ∧ σ.get x = some (.rw [v, .int .i64 (N : Nat)]) ∧ OwnS 1 σ v (bl (wb W ((N + 7) / 8))) ((N + 7) / 8)
theorem WrR.keep {σ σ' : Mem} {x : Nat} {o : List Nat} {W N : Nat} (h : WrR σ x o W N) (hb : ∀ b ∈ o, σ'.get b = σ.get b) : WrR σ' x o W N := by
  obtain ⟨h0, v, rfl, h1, h2, h3⟩ := h
  exact ⟨h0, v, rfl, h1, (hb x (by simp)).trans h2, h3.keep fun b hm => hb b (by simp [hm])⟩
theorem WrR.lt {σ : Mem} {x : Nat} {o : List Nat} {W N : Nat} (h : WrR σ x o W N) (live : σ.Live) : ∀ b ∈ o, b < σ.next := by
  obtain ⟨h0, v, rfl, h1, h2, h3⟩ := h
  intro b hb
  rcases List.mem_cons.1 hb with rfl | hb
  · exact live.lt h2
  · exact h3.lt live b hb
theorem ref01_Writer_Text {x : Nat} {o : List Nat} {W N : Nat} {σ : Mem} (h : WrR σ x o W N) :
    ACalls PG n_ref01_Writer_Text [.ptr x 0] σ fun r σ' => r = .str (text W N) ∧ σ.Same σ' := by
  refine ok_ref01_Writer_Text fun live => ?_
  unfold F_ref01_Writer_Text
  obtain ⟨hWl, v, rfl, hw, e, own⟩ := h
  repeat (first | refine To.go ?_ | with_reducible refine And.intro (by first | omega | exact ⟨rfl, rfl⟩) ?_ | ((with_reducible apply opt); (· (first | with_reducible assumption | rfl))) | ((with_reducible apply ldrw); (· (first | with_reducible assumption | (simp (disch := omega) only [go_sem, *]; try rfl))); (· (first | with_reducible assumption | rfl))) | ((with_reducible apply ldro); (· (first | with_reducible assumption | (simp (disch := omega) only [go_sem, *]; try rfl))); (· (first | with_reducible assumption | rfl))) | ((with_reducible apply st1); (· (first | with_reducible assumption | (simp (disch := omega) only [go_sem, *]; try rfl))); (· simp); (· rfl)) | with_reducible refine ifT rfl ?_ | with_reducible refine ifF (not_not_intro rfl) ?_ | with_reducible refine ifT (by omega) ?_ | with_reducible refine ifF (by omega) ?_)
  refine OwnS.bstr (own.keep fun b _ => rfl) ?_
  exact ⟨rfl, by repeat (with_reducible first | assumption | exact Mem.Only.refl _ _ | exact Mem.Same.refl _ | refine Mem.Only.bump ?_ _ | refine Mem.Only.put ?_ (by simp) _ | refine Mem.Only.put ?_ (.inr (by first | omega | (simp only [Mem.next_bump, Mem.next_put]; omega))) _ | refine Mem.Same.bump ?_ _ | refine Mem.Same.put ?_ (by first | omega | (simp only [Mem.next_bump, Mem.next_put]; omega)) _)⟩
theorem ref01_Writer_Bytes {x : Nat} {o : List Nat} {W N : Nat} {s : ByteArray} {σ : Mem} (h : WrR σ x o W N) (hN : N ≤ 2 ^ 40) (hs : s.size ≤ 2 ^ 40) :
    ACalls PG n_ref01_Writer_Bytes [.ptr x 0, .str s] σ fun r σ' => r = .tup [] ∧ ∃ o', WrR σ' x o' (layB W N s).1 (layB W N s).2 ∧ Grow o o' σ σ' := by
  refine ok_ref01_Writer_Bytes fun live => ?_
  unfold F_ref01_Writer_Bytes
  have hlt := h.lt live
  have hL := layB_lt s h.1
  obtain ⟨hW, v, rfl, hw, e, own⟩ := h
  unfold layB at hL ⊢
  dsimp only at hL ⊢
  have hWl : W < 2 ^ (8 * ((N + 7) / 8)) := Nat.lt_of_lt_of_le hW (pow_le (by omega))
  obtain ⟨k, hk⟩ : ∃ k, (N + 7) / 8 = k := ⟨_, rfl⟩
  rw [hk] at hL own hWl ⊢
  have hwn := hlt x (by simp)
  repeat (first | refine To.go ?_ | with_reducible refine And.intro (by first | omega | exact ⟨rfl, rfl⟩) ?_ | ((with_reducible apply opt); (· (first | with_reducible assumption | rfl))) | ((with_reducible apply ldrw); (· (first | with_reducible assumption | (simp (disch := omega) only [go_sem, *]; try rfl))); (· (first | with_reducible assumption | rfl))) | ((with_reducible apply ldro); (· (first | with_reducible assumption | (simp (disch := omega) only [go_sem, *]; try rfl))); (· (first | with_reducible assumption | rfl))) | ((with_reducible apply st1); (· (first | with_reducible assumption | (simp (disch := omega) only [go_sem, *]; try rfl))); (· simp); (· rfl)) | with_reducible refine ifT rfl ?_ | with_reducible refine ifF (not_not_intro rfl) ?_ | with_reducible refine ifT (by omega) ?_ | with_reducible refine ifF (by omega) ?_)
  refine OwnS.append (n := k) (m := s.size) (own.keep fun b _ => rfl) src_str ?_ ?_ (bl_one _) (bl_one _) (by omega) (fun hb => ?_) ?_
  · intro h0
    rw [List.length_eq_zero_iff.1 (show (bytesL s).length = 0 by rw [bytesL_length]; exact h0)]; rfl
  · rw [bl_length, bytesL_length]; omega
  · have := hlt _ (List.mem_cons_of_mem _ hb); omega
  intro v' σ3 own3 hn3 hg3 hb3
  simp only [Mem.next_bump] at hn3
  have hw3 : x ∉ blkOf v' := fun hb => by
    rcases hb3 x hb with h | h
    · exact hw h
    · omega
  have hneu3 : ∀ b ∈ blkOf v', b ≠ x := fun b hb e => hw3 (e ▸ hb)
  have e3 : σ3.get x = σ.get x := by rw [hg3 x hw (by omega)]; rfl
  rw [e] at e3
  repeat (first | refine To.go ?_ | with_reducible refine And.intro (by first | omega | exact ⟨rfl, rfl⟩) ?_ | ((with_reducible apply opt); (· (first | with_reducible assumption | rfl))) | ((with_reducible apply ldrw); (· (first | with_reducible assumption | (simp (disch := omega) only [go_sem, *]; try rfl))); (· (first | with_reducible assumption | rfl))) | ((with_reducible apply ldro); (· (first | with_reducible assumption | (simp (disch := omega) only [go_sem, *]; try rfl))); (· (first | with_reducible assumption | rfl))) | ((with_reducible apply st1); (· (first | with_reducible assumption | (simp (disch := omega) only [go_sem, *]; try rfl))); (· simp); (· rfl)) | with_reducible refine ifT rfl ?_ | with_reducible refine ifF (not_not_intro rfl) ?_ | with_reducible refine ifT (by omega) ?_ | with_reducible refine ifF (by omega) ?_)
  refine st1 e3 (by simp) own3.one ?_
  repeat (first | refine To.go ?_ | with_reducible refine And.intro (by first | omega | exact ⟨rfl, rfl⟩) ?_ | ((with_reducible apply opt); (· (first | with_reducible assumption | rfl))) | ((with_reducible apply ldrw); (· (first | with_reducible assumption | (simp (disch := omega) only [go_sem, *]; try rfl))); (· (first | with_reducible assumption | rfl))) | ((with_reducible apply ldro); (· (first | with_reducible assumption | (simp (disch := omega) only [go_sem, *]; try rfl))); (· (first | with_reducible assumption | rfl))) | ((with_reducible apply st1); (· (first | with_reducible assumption | (simp (disch := omega) only [go_sem, *]; try rfl))); (· simp); (· rfl)) | with_reducible refine ifT rfl ?_ | with_reducible refine ifF (not_not_intro rfl) ?_ | with_reducible refine ifT (by omega) ?_ | with_reducible refine ifF (by omega) ?_)
  refine OwnS.len own3 ?_
  repeat (first | refine To.go ?_ | with_reducible refine And.intro (by first | omega | exact ⟨rfl, rfl⟩) ?_ | ((with_reducible apply opt); (· (first | with_reducible assumption | rfl))) | ((with_reducible apply ldrw); (· (first | with_reducible assumption | (simp (disch := omega) only [go_sem, *]; try rfl))); (· (first | with_reducible assumption | rfl))) | ((with_reducible apply ldro); (· (first | with_reducible assumption | (simp (disch := omega) only [go_sem, *]; try rfl))); (· (first | with_reducible assumption | rfl))) | ((with_reducible apply st1); (· (first | with_reducible assumption | (simp (disch := omega) only [go_sem, *]; try rfl))); (· simp); (· rfl)) | with_reducible refine ifT rfl ?_ | with_reducible refine ifF (not_not_intro rfl) ?_ | with_reducible refine ifT (by omega) ?_ | with_reducible refine ifF (by omega) ?_)
  refine ⟨rfl, x :: blkOf v', ⟨hL, v', rfl, hw3, ?_, ?_⟩, ⟨?_, ?_, ?_⟩⟩
  · rw [gS', show (8 * ((k + s.size : Nat) : Int)) = ((8 * k + 8 * s.size : Nat) : Int) from by omega]; rfl
  · rw [show (8 * k + 8 * s.size + 7) / 8 = k + s.size from by omega, wb_append _ _ hWl, wb_num, ← bl_append]
    exact own3.keep fun b hb => by rw [Mem.get_put_ne _ (hneu3 b hb), Mem.get_bump, Mem.get_put_ne _ (hneu3 b hb)]
  · have o3 : Mem.Only (x :: blkOf v) σ σ3 := ⟨by omega, fun b hb hn => by
      simp at hn
      rw [hg3 b hn.2 (by omega)]; rfl⟩
    repeat (with_reducible first | assumption | exact Mem.Only.refl _ _ | exact Mem.Same.refl _ | refine Mem.Only.bump ?_ _ | refine Mem.Only.put ?_ (by simp) _ | refine Mem.Only.put ?_ (.inr (by first | omega | (simp only [Mem.next_bump, Mem.next_put]; omega))) _ | refine Mem.Same.bump ?_ _ | refine Mem.Same.put ?_ (by first | omega | (simp only [Mem.next_bump, Mem.next_put]; omega)) _)
  · intro b hb
    rcases List.mem_cons.1 hb with rfl | hb
    · exact .inl (by simp)
    · rcases hb3 b hb with h | h
      · exact .inl (by simp [h])
      · exact .inr (by omega)
  · intro b hb
    simp only [Mem.next_put, Mem.next_bump]
    rcases List.mem_cons.1 hb with rfl | hb
    · omega
    · rcases hb3 b hb with h | h
      · have := hlt _ (List.mem_cons_of_mem _ h); omega
      · omega
end Go.Vit
