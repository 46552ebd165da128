/- The document's stream: its memory; small steps. -/
import Derived.Test.YtjddffdjbeemaaaV3P
set_option linter.unusedVariables false
set_option linter.unusedSimpArgs false
set_option linter.unusedSimpArgs false
set_option maxRecDepth 20000
namespace Go.Vit
open Go.Proofs
structure Rmv (σ : Mem) (o : List Nat) (x r : Nat) (s : ByteArray) (p : Nat) (most : Int) (out : List UInt8) (v : AV) (e : Int) : Prop where
  eqo : o = x :: r :: blkOf v
  xr : x ≠ r
  xv : x ∉ blkOf v
  rv : r ∉ blkOf v
  gx : σ.get x = some (.rw [.ptr r 0, v, .int .i64 most, .int .i64 e])
  gr : σ.get r = some (rdR s p)
  own : OwnS 1 σ v (bl out) out.length
  le : p ≤ 8 * s.size
  lt : ∀ b ∈ o, b < σ.next
  room : out = [] ∨ (out.length : Int) ≤ most
  ms : -9223372036854775808 ≤ most ∧ most ≤ 2 ^ 40
  sz : s.size ≤ 2 ^ 40
def Rst {β : Type} (σ : Mem) (o : List Nat) (x r : Nat) (s : ByteArray) (most : Int) (out : List UInt8) (v : AV) (m : Rd β) (D : Except Int (β × Nat)) : Prop :=
  (∃ q, m s q = D ∧ Rmv σ o x r s q most out v 0) ∨ (∃ z q, z ≠ 0 ∧ D = .error z ∧ Rmv σ o x r s q most out v z)
section
variable {σ σ' : Mem} {o : List Nat} {x r p : Nat} {s : ByteArray} {most e : Int} {out : List UInt8} {v : AV} {β : Type} {D : Except Int (β × Nat)} {m : Rd β}
theorem Rmv.keep (h : Rmv σ o x r s p most out v e) (hg : ∀ b ∈ o, σ'.get b = σ.get b) (hn : σ.next ≤ σ'.next) : Rmv σ' o x r s p most out v e := by
  obtain ⟨rfl, h2, h3, h4, h5, h6, h7, h8, h9, h10, h11, h12⟩ := h
  exact ⟨rfl, h2, h3, h4, (hg x (by simp)).trans h5, (hg r (by simp)).trans h6, h7.keep fun b hb => hg b (by simp [hb]), h8, fun b hb => Nat.lt_of_lt_of_le (h9 b hb) hn, h10, h11, h12⟩
theorem Rmv.bump (h : Rmv σ o x r s p most out v e) (k : Nat) : Rmv (σ.bump k) o x r s p most out v e := h.keep (fun _ _ => rfl) (Nat.le_add_right _ _)
theorem Rmv.g0 (h : Rmv σ o x r s p most out v e) : Grow o o σ σ := .refl h.lt
theorem Rmv.reach (h : Rmv σ o x r s p most out v e) : s.size ≤ reachBytes := by have := h.sz; rw [reach_eq]; omega
theorem Rmv.read {q : Nat} (h : Rmv σ o x r s p most out v e) (h1 : σ'.get r = some (rdR s q)) (h2 : Mem.Only [r] σ σ') (hq : q ≤ 8 * s.size) : Rmv σ' o x r s q most out v e ∧ Grow o o σ σ' := by
  obtain ⟨rfl, g2, g3, g4, g5, g6, g7, g8, g9, g10, g11, g12⟩ := h
  have k : ∀ b, b < σ.next → b ≠ r → σ'.get b = σ.get b := fun b hb hn => h2.get b hb (by simpa using hn)
  refine ⟨⟨rfl, g2, g3, g4, (k x (g9 x (by simp)) g2).trans g5, h1, g7.keep fun b hb => k b (g9 b (by simp [hb])) fun e => g4 (e ▸ hb), hq, fun b hb => Nat.lt_of_lt_of_le (g9 b hb) h2.next, g10, g11, g12⟩, ⟨h2.next, fun b hb hn => ?_⟩, fun b hb => .inl hb, fun b hb => Nat.lt_of_lt_of_le (g9 b hb) h2.next⟩
  exact k b hb fun e => hn (by simp [e])
theorem Rmv.set (h : Rmv σ o x r s p most out v e) (z : Int) : Rmv (σ.put x (some (.rw [.ptr r 0, v, .int .i64 most, .int .i64 z]))) o x r s p most out v z ∧ Grow o o σ (σ.put x (some (.rw [.ptr r 0, v, .int .i64 most, .int .i64 z]))) := by
  obtain ⟨rfl, g2, g3, g4, g5, g6, g7, g8, g9, g10, g11, g12⟩ := h
  have k : ∀ b, b ≠ x → (σ.put x (some (.rw [.ptr r 0, v, .int .i64 most, .int .i64 z]))).get b = σ.get b := fun b hb => Mem.get_put_ne _ hb _
  refine ⟨⟨rfl, g2, g3, g4, gS', (k r g2.symm).trans g6, g7.keep fun b hb => k b fun e => g3 (e ▸ hb), g8, g9, g10, g11, g12⟩, ⟨Nat.le_refl _, fun b hb hn => ?_⟩, fun b hb => .inl hb, g9⟩
  exact k b fun e => hn (by simp [e])
theorem Rst.keep (h : Rst σ o x r s most out v m D) (hg : ∀ b ∈ o, σ'.get b = σ.get b) (hn : σ.next ≤ σ'.next) : Rst σ' o x r s most out v m D := by
  rcases h with ⟨q, h1, h2⟩ | ⟨z, q, h1, h2, h3⟩
  · exact .inl ⟨q, h1, h2.keep hg hn⟩
  · exact .inr ⟨z, q, h1, h2, h3.keep hg hn⟩
theorem Rst.bump (h : Rst σ o x r s most out v m D) (k : Nat) : Rst (σ.bump k) o x r s most out v m D := h.keep (fun _ _ => rfl) (Nat.le_add_right _ _)
theorem Rst.mv (h : Rst σ o x r s most out v m D) : ∃ q e, Rmv σ o x r s q most out v e := by
  rcases h with ⟨q, h1, h2⟩ | ⟨z, q, h1, h2, h3⟩
  · exact ⟨q, _, h2⟩
  · exact ⟨q, _, h3⟩
theorem Rst.g0 (h : Rst σ o x r s most out v m D) : Grow o o σ σ := by
  obtain ⟨q, e, h⟩ := h.mv; exact h.g0
theorem Rst.lt (h : Rst σ o x r s most out v m D) : ∀ b ∈ o, b < σ.next := by
  obtain ⟨q, e, h⟩ := h.mv; exact h.lt
theorem rbits {n : Nat} {k : Nat → Rd β} (hn : n ≤ 24) (h : Rst σ o x r s most out v (rBind (rBits n) k) D) : ACalls PG n_ref03_inflater_bits [.ptr x 0, .int .i64 (n : Nat)] σ fun w σ' => ∃ a : Nat, w = .int .i64 (a : Nat) ∧ a < 2 ^ n ∧ Grow o o σ σ' ∧ Rst σ' o x r s most out v (k a) D := by
  refine ok_ref03_inflater_bits fun live => ?_
  unfold F_ref03_inflater_bits
  rcases h with ⟨q, hD, h⟩ | ⟨z, q, hz, hD, h⟩
  · repeat (first | refine To.go ?_ | with_reducible refine And.intro (by first | omega | exact ⟨rfl, rfl⟩) ?_ | ((with_reducible apply opt); (· (first | with_reducible assumption | rfl))) | ((with_reducible apply ldrw); (· (first | with_reducible assumption | (simp (disch := omega) only [go_sem, *]; try rfl))); (· (first | with_reducible assumption | rfl))) | ((with_reducible apply ldro); (· (first | with_reducible assumption | (simp (disch := omega) only [go_sem, *]; try rfl))); (· (first | with_reducible assumption | rfl))) | ((with_reducible apply st1); (· (first | with_reducible assumption | (simp (disch := omega) only [go_sem, *]; try rfl))); (· simp); (· rfl)) | with_reducible refine ifT rfl ?_ | with_reducible refine ifF (not_not_intro rfl) ?_ | with_reducible refine ifT (by omega) ?_ | with_reducible refine ifF (by omega) ?_)
    refine ldrw h.gx (v := .int .i64 0) rfl ?_
    repeat (first | refine To.go ?_ | with_reducible refine And.intro (by first | omega | exact ⟨rfl, rfl⟩) ?_ | ((with_reducible apply opt); (· (first | with_reducible assumption | rfl))) | ((with_reducible apply ldrw); (· (first | with_reducible assumption | (simp (disch := omega) only [go_sem, *]; try rfl))); (· (first | with_reducible assumption | rfl))) | ((with_reducible apply ldro); (· (first | with_reducible assumption | (simp (disch := omega) only [go_sem, *]; try rfl))); (· (first | with_reducible assumption | rfl))) | ((with_reducible apply st1); (· (first | with_reducible assumption | (simp (disch := omega) only [go_sem, *]; try rfl))); (· simp); (· rfl)) | with_reducible refine ifT rfl ?_ | with_reducible refine ifF (not_not_intro rfl) ?_ | with_reducible refine ifT (by omega) ?_ | with_reducible refine ifF (by omega) ?_)
    refine ldrw h.gx (v := .ptr r 0) rfl ?_
    refine callW_of (ref01_Reader_Bits (σ := σ.bump 17) h.reach h.gr h.le) ?_
    rintro _ σ1 ⟨rfl, h1, h2⟩
    rw [rdBits_of h.le hn] at h1 ⊢
    cases e : rBits n s q with
    | error z =>
      rw [e] at h1
      rw [rBind_er e] at hD
      have hz := bits_er3 e
      subst hz
      have hr := (h.bump 17).read h1 h2 h.le
      repeat (first | refine To.go ?_ | with_reducible refine And.intro (by first | omega | exact ⟨rfl, rfl⟩) ?_ | ((with_reducible apply opt); (· (first | with_reducible assumption | rfl))) | ((with_reducible apply ldrw); (· (first | with_reducible assumption | (simp (disch := omega) only [go_sem, *]; try rfl))); (· (first | with_reducible assumption | rfl))) | ((with_reducible apply ldro); (· (first | with_reducible assumption | (simp (disch := omega) only [go_sem, *]; try rfl))); (· (first | with_reducible assumption | rfl))) | ((with_reducible apply st1); (· (first | with_reducible assumption | (simp (disch := omega) only [go_sem, *]; try rfl))); (· simp); (· rfl)) | with_reducible refine ifT rfl ?_ | with_reducible refine ifF (not_not_intro rfl) ?_ | with_reducible refine ifT (by omega) ?_ | with_reducible refine ifF (by omega) ?_)
      refine st1 hr.1.gx (by simp) rfl ?_
      repeat (first | refine To.go ?_ | with_reducible refine And.intro (by first | omega | exact ⟨rfl, rfl⟩) ?_ | ((with_reducible apply opt); (· (first | with_reducible assumption | rfl))) | ((with_reducible apply ldrw); (· (first | with_reducible assumption | (simp (disch := omega) only [go_sem, *]; try rfl))); (· (first | with_reducible assumption | rfl))) | ((with_reducible apply ldro); (· (first | with_reducible assumption | (simp (disch := omega) only [go_sem, *]; try rfl))); (· (first | with_reducible assumption | rfl))) | ((with_reducible apply st1); (· (first | with_reducible assumption | (simp (disch := omega) only [go_sem, *]; try rfl))); (· simp); (· rfl)) | with_reducible refine ifT rfl ?_ | with_reducible refine ifF (not_not_intro rfl) ?_ | with_reducible refine ifT (by omega) ?_ | with_reducible refine ifF (by omega) ?_)
      have hs := (hr.1.bump 5).set 3
      exact ⟨0, rfl, Nat.two_pow_pos n, (hr.2.ob.bump 5 |>.trans hs.2).bump _, .inr ⟨3, q, by decide, hD.symm, hs.1.bump _⟩⟩
    | ok y =>
      obtain ⟨a, q2⟩ := y
      rw [e] at h1
      rw [rBind_ok e] at hD
      have hr := (h.bump 17).read h1 h2 (Fr.le (.bits n) h.le e).2
      repeat (first | refine To.go ?_ | with_reducible refine And.intro (by first | omega | exact ⟨rfl, rfl⟩) ?_ | ((with_reducible apply opt); (· (first | with_reducible assumption | rfl))) | ((with_reducible apply ldrw); (· (first | with_reducible assumption | (simp (disch := omega) only [go_sem, *]; try rfl))); (· (first | with_reducible assumption | rfl))) | ((with_reducible apply ldro); (· (first | with_reducible assumption | (simp (disch := omega) only [go_sem, *]; try rfl))); (· (first | with_reducible assumption | rfl))) | ((with_reducible apply st1); (· (first | with_reducible assumption | (simp (disch := omega) only [go_sem, *]; try rfl))); (· simp); (· rfl)) | with_reducible refine ifT rfl ?_ | with_reducible refine ifF (not_not_intro rfl) ?_ | with_reducible refine ifT (by omega) ?_ | with_reducible refine ifF (by omega) ?_)
      refine st1 hr.1.gx (by simp) rfl ?_
      repeat (first | refine To.go ?_ | with_reducible refine And.intro (by first | omega | exact ⟨rfl, rfl⟩) ?_ | ((with_reducible apply opt); (· (first | with_reducible assumption | rfl))) | ((with_reducible apply ldrw); (· (first | with_reducible assumption | (simp (disch := omega) only [go_sem, *]; try rfl))); (· (first | with_reducible assumption | rfl))) | ((with_reducible apply ldro); (· (first | with_reducible assumption | (simp (disch := omega) only [go_sem, *]; try rfl))); (· (first | with_reducible assumption | rfl))) | ((with_reducible apply st1); (· (first | with_reducible assumption | (simp (disch := omega) only [go_sem, *]; try rfl))); (· simp); (· rfl)) | with_reducible refine ifT rfl ?_ | with_reducible refine ifF (not_not_intro rfl) ?_ | with_reducible refine ifT (by omega) ?_ | with_reducible refine ifF (by omega) ?_)
      have hs := (hr.1.bump 5).set 0
      exact ⟨a, rfl, bits_lt e, (hr.2.ob.bump 5 |>.trans hs.2).bump _, .inl ⟨q2, hD, hs.1.bump _⟩⟩
  · repeat (first | refine To.go ?_ | with_reducible refine And.intro (by first | omega | exact ⟨rfl, rfl⟩) ?_ | ((with_reducible apply opt); (· (first | with_reducible assumption | rfl))) | ((with_reducible apply ldrw); (· (first | with_reducible assumption | (simp (disch := omega) only [go_sem, *]; try rfl))); (· (first | with_reducible assumption | rfl))) | ((with_reducible apply ldro); (· (first | with_reducible assumption | (simp (disch := omega) only [go_sem, *]; try rfl))); (· (first | with_reducible assumption | rfl))) | ((with_reducible apply st1); (· (first | with_reducible assumption | (simp (disch := omega) only [go_sem, *]; try rfl))); (· simp); (· rfl)) | with_reducible refine ifT rfl ?_ | with_reducible refine ifF (not_not_intro rfl) ?_ | with_reducible refine ifT (by omega) ?_ | with_reducible refine ifF (by omega) ?_)
    refine ldrw h.gx (v := .int .i64 z) rfl ?_
    repeat (first | refine To.go ?_ | with_reducible refine And.intro (by first | omega | exact ⟨rfl, rfl⟩) ?_ | ((with_reducible apply opt); (· (first | with_reducible assumption | rfl))) | ((with_reducible apply ldrw); (· (first | with_reducible assumption | (simp (disch := omega) only [go_sem, *]; try rfl))); (· (first | with_reducible assumption | rfl))) | ((with_reducible apply ldro); (· (first | with_reducible assumption | (simp (disch := omega) only [go_sem, *]; try rfl))); (· (first | with_reducible assumption | rfl))) | ((with_reducible apply st1); (· (first | with_reducible assumption | (simp (disch := omega) only [go_sem, *]; try rfl))); (· simp); (· rfl)) | with_reducible refine ifT rfl ?_ | with_reducible refine ifF (not_not_intro rfl) ?_ | with_reducible refine ifT (by omega) ?_ | with_reducible refine ifF (by omega) ?_)
    exact ⟨0, rfl, Nat.two_pow_pos n, h.g0.bump _, .inr ⟨z, q, hz, hD, h.bump _⟩⟩
theorem rbytes {n : Nat} {k : ByteArray → Rd β} (h : Rst σ o x r s most out v (rBind (rBytes n) k) D) : ACalls PG n_ref03_inflater_bytes [.ptr x 0, .int .i64 (n : Nat)] σ fun w σ' => ∃ b : ByteArray, w = .str b ∧ Grow o o σ σ' ∧
    ((b.size = n ∧ ∃ q, k b s q = D ∧ Rmv σ' o x r s q most out v 0) ∨ ∃ z q, z ≠ 0 ∧ D = .error z ∧ Rmv σ' o x r s q most out v z) := by
  refine ok_ref03_inflater_bytes fun live => ?_
  unfold F_ref03_inflater_bytes
  rcases h with ⟨q, hD, h⟩ | ⟨z, q, hz, hD, h⟩
  · repeat (first | refine To.go ?_ | with_reducible refine And.intro (by first | omega | exact ⟨rfl, rfl⟩) ?_ | ((with_reducible apply opt); (· (first | with_reducible assumption | rfl))) | ((with_reducible apply ldrw); (· (first | with_reducible assumption | (simp (disch := omega) only [go_sem, *]; try rfl))); (· (first | with_reducible assumption | rfl))) | ((with_reducible apply ldro); (· (first | with_reducible assumption | (simp (disch := omega) only [go_sem, *]; try rfl))); (· (first | with_reducible assumption | rfl))) | ((with_reducible apply st1); (· (first | with_reducible assumption | (simp (disch := omega) only [go_sem, *]; try rfl))); (· simp); (· rfl)) | with_reducible refine ifT rfl ?_ | with_reducible refine ifF (not_not_intro rfl) ?_ | with_reducible refine ifT (by omega) ?_ | with_reducible refine ifF (by omega) ?_)
    refine ldrw h.gx (v := .int .i64 0) rfl ?_
    repeat (first | refine To.go ?_ | with_reducible refine And.intro (by first | omega | exact ⟨rfl, rfl⟩) ?_ | ((with_reducible apply opt); (· (first | with_reducible assumption | rfl))) | ((with_reducible apply ldrw); (· (first | with_reducible assumption | (simp (disch := omega) only [go_sem, *]; try rfl))); (· (first | with_reducible assumption | rfl))) | ((with_reducible apply ldro); (· (first | with_reducible assumption | (simp (disch := omega) only [go_sem, *]; try rfl))); (· (first | with_reducible assumption | rfl))) | ((with_reducible apply st1); (· (first | with_reducible assumption | (simp (disch := omega) only [go_sem, *]; try rfl))); (· simp); (· rfl)) | with_reducible refine ifT rfl ?_ | with_reducible refine ifF (not_not_intro rfl) ?_ | with_reducible refine ifT (by omega) ?_ | with_reducible refine ifF (by omega) ?_)
    refine ldrw h.gx (v := .ptr r 0) rfl ?_
    refine callW_of (ref01_Reader_Bytes (σ := σ.bump 17) h.reach h.gr h.le) ?_
    rintro _ σ1 ⟨rfl, h1, h2⟩
    rw [rdBytes_of h.le] at h1 ⊢
    cases e : rBytes n s q with
    | error z =>
      rw [e] at h1
      rw [rBind_er e] at hD
      have hz := Fr.ne (.bytes n) h.le e
      have hr := (h.bump 17).read h1 h2 (by have := h.le; show 8 * ((q + 7) / 8) ≤ _; omega)
      repeat (first | refine To.go ?_ | with_reducible refine And.intro (by first | omega | exact ⟨rfl, rfl⟩) ?_ | ((with_reducible apply opt); (· (first | with_reducible assumption | rfl))) | ((with_reducible apply ldrw); (· (first | with_reducible assumption | (simp (disch := omega) only [go_sem, *]; try rfl))); (· (first | with_reducible assumption | rfl))) | ((with_reducible apply ldro); (· (first | with_reducible assumption | (simp (disch := omega) only [go_sem, *]; try rfl))); (· (first | with_reducible assumption | rfl))) | ((with_reducible apply st1); (· (first | with_reducible assumption | (simp (disch := omega) only [go_sem, *]; try rfl))); (· simp); (· rfl)) | with_reducible refine ifT rfl ?_ | with_reducible refine ifF (not_not_intro rfl) ?_ | with_reducible refine ifT (by omega) ?_ | with_reducible refine ifF (by omega) ?_)
      refine st1 hr.1.gx (by simp) rfl ?_
      repeat (first | refine To.go ?_ | with_reducible refine And.intro (by first | omega | exact ⟨rfl, rfl⟩) ?_ | ((with_reducible apply opt); (· (first | with_reducible assumption | rfl))) | ((with_reducible apply ldrw); (· (first | with_reducible assumption | (simp (disch := omega) only [go_sem, *]; try rfl))); (· (first | with_reducible assumption | rfl))) | ((with_reducible apply ldro); (· (first | with_reducible assumption | (simp (disch := omega) only [go_sem, *]; try rfl))); (· (first | with_reducible assumption | rfl))) | ((with_reducible apply st1); (· (first | with_reducible assumption | (simp (disch := omega) only [go_sem, *]; try rfl))); (· simp); (· rfl)) | with_reducible refine ifT rfl ?_ | with_reducible refine ifF (not_not_intro rfl) ?_ | with_reducible refine ifT (by omega) ?_ | with_reducible refine ifF (by omega) ?_)
      have hs := (hr.1.bump 5).set z
      exact ⟨_, rfl, (hr.2.ob.bump 5 |>.trans hs.2).bump _, .inr ⟨z, _, hz, hD.symm, hs.1.bump _⟩⟩
    | ok y =>
      obtain ⟨a, q2⟩ := y
      rw [e] at h1
      rw [rBind_ok e] at hD
      have hr := (h.bump 17).read h1 h2 (Fr.le (.bytes n) h.le e).2
      have ha : a.size = n := by
        unfold rBytes at e
        split at e
        · exact absurd e (by simp)
        · injection e with e
          rw [← (Prod.mk.inj e).1, size_extract]; omega
      repeat (first | refine To.go ?_ | with_reducible refine And.intro (by first | omega | exact ⟨rfl, rfl⟩) ?_ | ((with_reducible apply opt); (· (first | with_reducible assumption | rfl))) | ((with_reducible apply ldrw); (· (first | with_reducible assumption | (simp (disch := omega) only [go_sem, *]; try rfl))); (· (first | with_reducible assumption | rfl))) | ((with_reducible apply ldro); (· (first | with_reducible assumption | (simp (disch := omega) only [go_sem, *]; try rfl))); (· (first | with_reducible assumption | rfl))) | ((with_reducible apply st1); (· (first | with_reducible assumption | (simp (disch := omega) only [go_sem, *]; try rfl))); (· simp); (· rfl)) | with_reducible refine ifT rfl ?_ | with_reducible refine ifF (not_not_intro rfl) ?_ | with_reducible refine ifT (by omega) ?_ | with_reducible refine ifF (by omega) ?_)
      refine st1 hr.1.gx (by simp) rfl ?_
      repeat (first | refine To.go ?_ | with_reducible refine And.intro (by first | omega | exact ⟨rfl, rfl⟩) ?_ | ((with_reducible apply opt); (· (first | with_reducible assumption | rfl))) | ((with_reducible apply ldrw); (· (first | with_reducible assumption | (simp (disch := omega) only [go_sem, *]; try rfl))); (· (first | with_reducible assumption | rfl))) | ((with_reducible apply ldro); (· (first | with_reducible assumption | (simp (disch := omega) only [go_sem, *]; try rfl))); (· (first | with_reducible assumption | rfl))) | ((with_reducible apply st1); (· (first | with_reducible assumption | (simp (disch := omega) only [go_sem, *]; try rfl))); (· simp); (· rfl)) | with_reducible refine ifT rfl ?_ | with_reducible refine ifF (not_not_intro rfl) ?_ | with_reducible refine ifT (by omega) ?_ | with_reducible refine ifF (by omega) ?_)
      have hs := (hr.1.bump 5).set 0
      exact ⟨a, rfl, (hr.2.ob.bump 5 |>.trans hs.2).bump _, .inl ⟨ha, q2, hD, hs.1.bump _⟩⟩
  · repeat (first | refine To.go ?_ | with_reducible refine And.intro (by first | omega | exact ⟨rfl, rfl⟩) ?_ | ((with_reducible apply opt); (· (first | with_reducible assumption | rfl))) | ((with_reducible apply ldrw); (· (first | with_reducible assumption | (simp (disch := omega) only [go_sem, *]; try rfl))); (· (first | with_reducible assumption | rfl))) | ((with_reducible apply ldro); (· (first | with_reducible assumption | (simp (disch := omega) only [go_sem, *]; try rfl))); (· (first | with_reducible assumption | rfl))) | ((with_reducible apply st1); (· (first | with_reducible assumption | (simp (disch := omega) only [go_sem, *]; try rfl))); (· simp); (· rfl)) | with_reducible refine ifT rfl ?_ | with_reducible refine ifF (not_not_intro rfl) ?_ | with_reducible refine ifT (by omega) ?_ | with_reducible refine ifF (by omega) ?_)
    refine ldrw h.gx (v := .int .i64 z) rfl ?_
    repeat (first | refine To.go ?_ | with_reducible refine And.intro (by first | omega | exact ⟨rfl, rfl⟩) ?_ | ((with_reducible apply opt); (· (first | with_reducible assumption | rfl))) | ((with_reducible apply ldrw); (· (first | with_reducible assumption | (simp (disch := omega) only [go_sem, *]; try rfl))); (· (first | with_reducible assumption | rfl))) | ((with_reducible apply ldro); (· (first | with_reducible assumption | (simp (disch := omega) only [go_sem, *]; try rfl))); (· (first | with_reducible assumption | rfl))) | ((with_reducible apply st1); (· (first | with_reducible assumption | (simp (disch := omega) only [go_sem, *]; try rfl))); (· simp); (· rfl)) | with_reducible refine ifT rfl ?_ | with_reducible refine ifF (not_not_intro rfl) ?_ | with_reducible refine ifT (by omega) ?_ | with_reducible refine ifF (by omega) ?_)
    exact ⟨_, rfl, h.g0.bump _, .inr ⟨z, q, hz, hD, h.bump _⟩⟩
theorem dec_sym0 {L : List Int} {s : ByteArray} : ∀ (k n c p : Nat), (dec L s k n c p).2.1 ≠ 0 → (dec L s k n c p).1 = 0
  | 0, _, _, _, h => rfl
  | k + 1, n, c, p, h => by
    unfold dec at h ⊢
    by_cases h1 : 8 * s.size ≤ p
    · rw [if_pos h1]
    · rw [if_neg h1] at h ⊢
      cases e : fnd L n (2 * c + bitAt s p) with
      | some i => rw [e] at h; exact absurd rfl h
      | none =>
        rw [e] at h
        exact dec_sym0 k _ _ _ h
theorem rnext {lo hi : Nat} {L : List Int} {k : Int → Rd β} {ta : AV} (h : Rst σ o x r s most out v (rBind (rNext L) k) D) (hT : (∃ q, Rmv σ o x r s q most out v 0) → ∃ t, ta = .ptr t 0 ∧ chk L = 0 ∧ TabR lo hi L σ t) (hhi : hi ≤ σ.next) (hto : ∀ b ∈ o, b < lo ∨ hi ≤ b) :
    ACalls PG n_ref03_inflater_next [.ptr x 0, ta] σ fun w σ' => ∃ c : Nat, w = .int .i64 (c : Nat) ∧ Grow o o σ σ' ∧
    ((c < L.length ∧ ∃ q, k c s q = D ∧ Rmv σ' o x r s q most out v 0 ∧ ∃ p, p < q ∧ rNext L s p = .ok ((c : Int), q)) ∨ c = 0 ∧ ∃ z q, z ≠ 0 ∧ D = .error z ∧ Rmv σ' o x r s q most out v z) := by
  refine ok_ref03_inflater_next fun live => ?_
  unfold F_ref03_inflater_next
  rcases h with ⟨q, hD, h⟩ | ⟨z, q, hz, hD, h⟩
  · obtain ⟨t, rfl, hc, ht⟩ := hT ⟨q, h⟩
    repeat (first | refine To.go ?_ | with_reducible refine And.intro (by first | omega | exact ⟨rfl, rfl⟩) ?_ | ((with_reducible apply opt); (· (first | with_reducible assumption | rfl))) | ((with_reducible apply ldrw); (· (first | with_reducible assumption | (simp (disch := omega) only [go_sem, *]; try rfl))); (· (first | with_reducible assumption | rfl))) | ((with_reducible apply ldro); (· (first | with_reducible assumption | (simp (disch := omega) only [go_sem, *]; try rfl))); (· (first | with_reducible assumption | rfl))) | ((with_reducible apply st1); (· (first | with_reducible assumption | (simp (disch := omega) only [go_sem, *]; try rfl))); (· simp); (· rfl)) | with_reducible refine ifT rfl ?_ | with_reducible refine ifF (not_not_intro rfl) ?_ | with_reducible refine ifT (by omega) ?_ | with_reducible refine ifF (by omega) ?_)
    refine ldrw h.gx (v := .int .i64 0) rfl ?_
    repeat (first | refine To.go ?_ | with_reducible refine And.intro (by first | omega | exact ⟨rfl, rfl⟩) ?_ | ((with_reducible apply opt); (· (first | with_reducible assumption | rfl))) | ((with_reducible apply ldrw); (· (first | with_reducible assumption | (simp (disch := omega) only [go_sem, *]; try rfl))); (· (first | with_reducible assumption | rfl))) | ((with_reducible apply ldro); (· (first | with_reducible assumption | (simp (disch := omega) only [go_sem, *]; try rfl))); (· (first | with_reducible assumption | rfl))) | ((with_reducible apply st1); (· (first | with_reducible assumption | (simp (disch := omega) only [go_sem, *]; try rfl))); (· simp); (· rfl)) | with_reducible refine ifT rfl ?_ | with_reducible refine ifF (not_not_intro rfl) ?_ | with_reducible refine ifT (by omega) ?_ | with_reducible refine ifF (by omega) ?_)
    refine ldrw h.gx (v := .ptr r 0) rfl ?_
    refine callW_of (ref02_Next (σ := σ.bump 17) hc (ht.keep fun _ _ _ => rfl) (by simp only [Mem.next_bump]; omega) (hto r (by rw [h.eqo]; simp)) h.reach h.gr h.le) ?_
    rintro _ σ1 ⟨rfl, h1, h2⟩
    have hr := (h.bump 17).read h1 h2 (dec_le _ _ _ h.le)
    by_cases h0 : (dec L s (mostN L) 1 0 q).2.1 = 0
    · have e : rNext L s q = .ok ((dec L s (mostN L) 1 0 q).1, (dec L s (mostN L) 1 0 q).2.2) := by unfold rNext; rw [if_pos h0]
      rw [rBind_ok e] at hD
      have hpq := next_gt e
      obtain ⟨c, hc', hcl⟩ := next_lt e
      rw [hc'] at hD e ⊢
      rw [h0]
      repeat (first | refine To.go ?_ | with_reducible refine And.intro (by first | omega | exact ⟨rfl, rfl⟩) ?_ | ((with_reducible apply opt); (· (first | with_reducible assumption | rfl))) | ((with_reducible apply ldrw); (· (first | with_reducible assumption | (simp (disch := omega) only [go_sem, *]; try rfl))); (· (first | with_reducible assumption | rfl))) | ((with_reducible apply ldro); (· (first | with_reducible assumption | (simp (disch := omega) only [go_sem, *]; try rfl))); (· (first | with_reducible assumption | rfl))) | ((with_reducible apply st1); (· (first | with_reducible assumption | (simp (disch := omega) only [go_sem, *]; try rfl))); (· simp); (· rfl)) | with_reducible refine ifT rfl ?_ | with_reducible refine ifF (not_not_intro rfl) ?_ | with_reducible refine ifT (by omega) ?_ | with_reducible refine ifF (by omega) ?_)
      refine st1 hr.1.gx (by simp) rfl ?_
      repeat (first | refine To.go ?_ | with_reducible refine And.intro (by first | omega | exact ⟨rfl, rfl⟩) ?_ | ((with_reducible apply opt); (· (first | with_reducible assumption | rfl))) | ((with_reducible apply ldrw); (· (first | with_reducible assumption | (simp (disch := omega) only [go_sem, *]; try rfl))); (· (first | with_reducible assumption | rfl))) | ((with_reducible apply ldro); (· (first | with_reducible assumption | (simp (disch := omega) only [go_sem, *]; try rfl))); (· (first | with_reducible assumption | rfl))) | ((with_reducible apply st1); (· (first | with_reducible assumption | (simp (disch := omega) only [go_sem, *]; try rfl))); (· simp); (· rfl)) | with_reducible refine ifT rfl ?_ | with_reducible refine ifF (not_not_intro rfl) ?_ | with_reducible refine ifT (by omega) ?_ | with_reducible refine ifF (by omega) ?_)
      have hs := (hr.1.bump 5).set 0
      exact ⟨c, rfl, (hr.2.ob.bump 5 |>.trans hs.2).bump _, .inl ⟨hcl, _, hD, hs.1.bump _, _, hpq, e⟩⟩
    · have e : rNext L s q = .error (dec L s (mostN L) 1 0 q).2.1 := by unfold rNext; rw [if_neg h0]
      rw [rBind_er e] at hD
      rw [dec_sym0 _ _ _ _ h0]
      repeat (first | refine To.go ?_ | with_reducible refine And.intro (by first | omega | exact ⟨rfl, rfl⟩) ?_ | ((with_reducible apply opt); (· (first | with_reducible assumption | rfl))) | ((with_reducible apply ldrw); (· (first | with_reducible assumption | (simp (disch := omega) only [go_sem, *]; try rfl))); (· (first | with_reducible assumption | rfl))) | ((with_reducible apply ldro); (· (first | with_reducible assumption | (simp (disch := omega) only [go_sem, *]; try rfl))); (· (first | with_reducible assumption | rfl))) | ((with_reducible apply st1); (· (first | with_reducible assumption | (simp (disch := omega) only [go_sem, *]; try rfl))); (· simp); (· rfl)) | with_reducible refine ifT rfl ?_ | with_reducible refine ifF (not_not_intro rfl) ?_ | with_reducible refine ifT (by omega) ?_ | with_reducible refine ifF (by omega) ?_)
      refine st1 hr.1.gx (by simp) rfl ?_
      repeat (first | refine To.go ?_ | with_reducible refine And.intro (by first | omega | exact ⟨rfl, rfl⟩) ?_ | ((with_reducible apply opt); (· (first | with_reducible assumption | rfl))) | ((with_reducible apply ldrw); (· (first | with_reducible assumption | (simp (disch := omega) only [go_sem, *]; try rfl))); (· (first | with_reducible assumption | rfl))) | ((with_reducible apply ldro); (· (first | with_reducible assumption | (simp (disch := omega) only [go_sem, *]; try rfl))); (· (first | with_reducible assumption | rfl))) | ((with_reducible apply st1); (· (first | with_reducible assumption | (simp (disch := omega) only [go_sem, *]; try rfl))); (· simp); (· rfl)) | with_reducible refine ifT rfl ?_ | with_reducible refine ifF (not_not_intro rfl) ?_ | with_reducible refine ifT (by omega) ?_ | with_reducible refine ifF (by omega) ?_)
      have hs := (hr.1.bump 5).set (dec L s (mostN L) 1 0 q).2.1
      exact ⟨0, rfl, (hr.2.ob.bump 5 |>.trans hs.2).bump _, .inr ⟨rfl, _, _, h0, hD.symm, hs.1.bump _⟩⟩
  · repeat (first | refine To.go ?_ | with_reducible refine And.intro (by first | omega | exact ⟨rfl, rfl⟩) ?_ | ((with_reducible apply opt); (· (first | with_reducible assumption | rfl))) | ((with_reducible apply ldrw); (· (first | with_reducible assumption | (simp (disch := omega) only [go_sem, *]; try rfl))); (· (first | with_reducible assumption | rfl))) | ((with_reducible apply ldro); (· (first | with_reducible assumption | (simp (disch := omega) only [go_sem, *]; try rfl))); (· (first | with_reducible assumption | rfl))) | ((with_reducible apply st1); (· (first | with_reducible assumption | (simp (disch := omega) only [go_sem, *]; try rfl))); (· simp); (· rfl)) | with_reducible refine ifT rfl ?_ | with_reducible refine ifF (not_not_intro rfl) ?_ | with_reducible refine ifT (by omega) ?_ | with_reducible refine ifF (by omega) ?_)
    refine ldrw h.gx (v := .int .i64 z) rfl ?_
    repeat (first | refine To.go ?_ | with_reducible refine And.intro (by first | omega | exact ⟨rfl, rfl⟩) ?_ | ((with_reducible apply opt); (· (first | with_reducible assumption | rfl))) | ((with_reducible apply ldrw); (· (first | with_reducible assumption | (simp (disch := omega) only [go_sem, *]; try rfl))); (· (first | with_reducible assumption | rfl))) | ((with_reducible apply ldro); (· (first | with_reducible assumption | (simp (disch := omega) only [go_sem, *]; try rfl))); (· (first | with_reducible assumption | rfl))) | ((with_reducible apply st1); (· (first | with_reducible assumption | (simp (disch := omega) only [go_sem, *]; try rfl))); (· simp); (· rfl)) | with_reducible refine ifT rfl ?_ | with_reducible refine ifF (not_not_intro rfl) ?_ | with_reducible refine ifT (by omega) ?_ | with_reducible refine ifF (by omega) ?_)
    exact ⟨0, rfl, h.g0.bump _, .inr ⟨rfl, z, q, hz, hD, h.bump _⟩⟩
theorem TabR.wide {lo hi lo' hi' t : Nat} {L : List Int} (h : TabR lo hi L σ t) (h1 : lo' ≤ lo) (h2 : hi ≤ hi') : TabR lo' hi' L σ t := by
  obtain ⟨l, c, a1, a2, a3, a7, a8, a9⟩ := h
  exact ⟨l, c, a1, a2, a3, ⟨by omega, by omega⟩, fun b hb => by have := a8 b hb; omega, fun b hb => by have := a9 b hb; omega⟩
theorem rtable {L : List Int} {k : Unit → Rd β} {a : AV} (h : Rst σ o x r s most out v (rBind (rTable L) k) D) (ha : (∃ q, Rmv σ o x r s q most out v 0) → RdO 1 σ a (ic L) L.length) (hl : L.length ≤ 2 ^ 44) :
    ACalls PG n_ref03_inflater_table [.ptr x 0, a] σ fun w σ' => Grow o o σ σ' ∧ σ.next ≤ σ'.next ∧ (∀ b, b < σ.next → b ≠ x → σ'.get b = σ.get b) ∧
    ((∃ t, w = .ptr t 0 ∧ chk L = 0 ∧ lens L ∧ TabR σ.next σ'.next L σ' t ∧ ∃ q, k () s q = D ∧ Rmv σ' o x r s q most out v 0) ∨ ∃ z q, z ≠ 0 ∧ D = .error z ∧ Rmv σ' o x r s q most out v z) := by
  refine ok_ref03_inflater_table fun live => ?_
  unfold F_ref03_inflater_table
  rcases h with ⟨q, hD, h⟩ | ⟨z, q, hz, hD, h⟩
  · have ha := ha ⟨q, h⟩
    repeat (first | refine To.go ?_ | with_reducible refine And.intro (by first | omega | exact ⟨rfl, rfl⟩) ?_ | ((with_reducible apply opt); (· (first | with_reducible assumption | rfl))) | ((with_reducible apply ldrw); (· (first | with_reducible assumption | (simp (disch := omega) only [go_sem, *]; try rfl))); (· (first | with_reducible assumption | rfl))) | ((with_reducible apply ldro); (· (first | with_reducible assumption | (simp (disch := omega) only [go_sem, *]; try rfl))); (· (first | with_reducible assumption | rfl))) | ((with_reducible apply st1); (· (first | with_reducible assumption | (simp (disch := omega) only [go_sem, *]; try rfl))); (· simp); (· rfl)) | with_reducible refine ifT rfl ?_ | with_reducible refine ifF (not_not_intro rfl) ?_ | with_reducible refine ifT (by omega) ?_ | with_reducible refine ifF (by omega) ?_)
    refine ldrw h.gx (v := .int .i64 0) rfl ?_
    repeat (first | refine To.go ?_ | with_reducible refine And.intro (by first | omega | exact ⟨rfl, rfl⟩) ?_ | ((with_reducible apply opt); (· (first | with_reducible assumption | rfl))) | ((with_reducible apply ldrw); (· (first | with_reducible assumption | (simp (disch := omega) only [go_sem, *]; try rfl))); (· (first | with_reducible assumption | rfl))) | ((with_reducible apply ldro); (· (first | with_reducible assumption | (simp (disch := omega) only [go_sem, *]; try rfl))); (· (first | with_reducible assumption | rfl))) | ((with_reducible apply st1); (· (first | with_reducible assumption | (simp (disch := omega) only [go_sem, *]; try rfl))); (· simp); (· rfl)) | with_reducible refine ifT rfl ?_ | with_reducible refine ifF (not_not_intro rfl) ?_ | with_reducible refine ifT (by omega) ?_ | with_reducible refine ifF (by omega) ?_)
    refine callW_of (ref02_Make (σ := σ.bump 13) (ha.keep fun _ _ => rfl) hl) ?_
    rintro _ σ1 ⟨p, rfl, _, hok, s1⟩
    have n1 := s1.next
    simp only [Mem.next_bump] at n1 hok
    replace s1 := s1.ob
    have h1 := h.keep (fun b hb => s1.get b (h.lt b hb)) s1.next
    have hx := h.lt x (by rw [h.eqo]; simp)
    by_cases hc : chk L = 0
    · obtain ⟨hL, t, rfl, hT⟩ := hok hc
      rw [rBind_ok (a := ()) (q := q) (by unfold rTable; rw [if_neg (by simpa using hc)]; rfl)] at hD
      rw [hc]
      repeat (first | refine To.go ?_ | with_reducible refine And.intro (by first | omega | exact ⟨rfl, rfl⟩) ?_ | ((with_reducible apply opt); (· (first | with_reducible assumption | rfl))) | ((with_reducible apply ldrw); (· (first | with_reducible assumption | (simp (disch := omega) only [go_sem, *]; try rfl))); (· (first | with_reducible assumption | rfl))) | ((with_reducible apply ldro); (· (first | with_reducible assumption | (simp (disch := omega) only [go_sem, *]; try rfl))); (· (first | with_reducible assumption | rfl))) | ((with_reducible apply st1); (· (first | with_reducible assumption | (simp (disch := omega) only [go_sem, *]; try rfl))); (· simp); (· rfl)) | with_reducible refine ifT rfl ?_ | with_reducible refine ifF (not_not_intro rfl) ?_ | with_reducible refine ifT (by omega) ?_ | with_reducible refine ifF (by omega) ?_)
      refine st1 h1.gx (by simp) rfl ?_
      repeat (first | refine To.go ?_ | with_reducible refine And.intro (by first | omega | exact ⟨rfl, rfl⟩) ?_ | ((with_reducible apply opt); (· (first | with_reducible assumption | rfl))) | ((with_reducible apply ldrw); (· (first | with_reducible assumption | (simp (disch := omega) only [go_sem, *]; try rfl))); (· (first | with_reducible assumption | rfl))) | ((with_reducible apply ldro); (· (first | with_reducible assumption | (simp (disch := omega) only [go_sem, *]; try rfl))); (· (first | with_reducible assumption | rfl))) | ((with_reducible apply st1); (· (first | with_reducible assumption | (simp (disch := omega) only [go_sem, *]; try rfl))); (· simp); (· rfl)) | with_reducible refine ifT rfl ?_ | with_reducible refine ifF (not_not_intro rfl) ?_ | with_reducible refine ifT (by omega) ?_ | with_reducible refine ifF (by omega) ?_)
      have hs := (h1.bump 5).set 0
      refine ⟨((h.g0.then s1).bump 5 |>.trans hs.2).bump _, by simp only [Mem.next_bump, Mem.next_put]; omega, fun b hb hbx => ?_, .inl ⟨t, rfl, rfl, hL, ?_, q, hD, hs.1.bump _⟩⟩
      · rw [Mem.get_bump, Mem.get_put_ne _ hbx, Mem.get_bump, s1.get b hb]
      · refine TabR.wide (lo := σ.next + 13) (hi := σ1.next) ?_ (by omega) (by simp only [Mem.next_bump, Mem.next_put]; omega)
        exact hT.keep fun b hb _ => by rw [Mem.get_bump, Mem.get_put_ne _ (by omega)]; rfl
    · rw [rBind_er (e := chk L) (by unfold rTable; rw [if_pos hc]; rfl)] at hD
      repeat (first | refine To.go ?_ | with_reducible refine And.intro (by first | omega | exact ⟨rfl, rfl⟩) ?_ | ((with_reducible apply opt); (· (first | with_reducible assumption | rfl))) | ((with_reducible apply ldrw); (· (first | with_reducible assumption | (simp (disch := omega) only [go_sem, *]; try rfl))); (· (first | with_reducible assumption | rfl))) | ((with_reducible apply ldro); (· (first | with_reducible assumption | (simp (disch := omega) only [go_sem, *]; try rfl))); (· (first | with_reducible assumption | rfl))) | ((with_reducible apply st1); (· (first | with_reducible assumption | (simp (disch := omega) only [go_sem, *]; try rfl))); (· simp); (· rfl)) | with_reducible refine ifT rfl ?_ | with_reducible refine ifF (not_not_intro rfl) ?_ | with_reducible refine ifT (by omega) ?_ | with_reducible refine ifF (by omega) ?_)
      refine st1 h1.gx (by simp) rfl ?_
      repeat (first | refine To.go ?_ | with_reducible refine And.intro (by first | omega | exact ⟨rfl, rfl⟩) ?_ | ((with_reducible apply opt); (· (first | with_reducible assumption | rfl))) | ((with_reducible apply ldrw); (· (first | with_reducible assumption | (simp (disch := omega) only [go_sem, *]; try rfl))); (· (first | with_reducible assumption | rfl))) | ((with_reducible apply ldro); (· (first | with_reducible assumption | (simp (disch := omega) only [go_sem, *]; try rfl))); (· (first | with_reducible assumption | rfl))) | ((with_reducible apply st1); (· (first | with_reducible assumption | (simp (disch := omega) only [go_sem, *]; try rfl))); (· simp); (· rfl)) | with_reducible refine ifT rfl ?_ | with_reducible refine ifF (not_not_intro rfl) ?_ | with_reducible refine ifT (by omega) ?_ | with_reducible refine ifF (by omega) ?_)
      have hs := (h1.bump 5).set (chk L)
      refine ⟨((h.g0.then s1).bump 5 |>.trans hs.2).bump _, by simp only [Mem.next_bump, Mem.next_put]; omega, fun b hb hbx => ?_, .inr ⟨_, q, hc, hD.symm, hs.1.bump _⟩⟩
      rw [Mem.get_bump, Mem.get_put_ne _ hbx, Mem.get_bump, s1.get b hb]
  · repeat (first | refine To.go ?_ | with_reducible refine And.intro (by first | omega | exact ⟨rfl, rfl⟩) ?_ | ((with_reducible apply opt); (· (first | with_reducible assumption | rfl))) | ((with_reducible apply ldrw); (· (first | with_reducible assumption | (simp (disch := omega) only [go_sem, *]; try rfl))); (· (first | with_reducible assumption | rfl))) | ((with_reducible apply ldro); (· (first | with_reducible assumption | (simp (disch := omega) only [go_sem, *]; try rfl))); (· (first | with_reducible assumption | rfl))) | ((with_reducible apply st1); (· (first | with_reducible assumption | (simp (disch := omega) only [go_sem, *]; try rfl))); (· simp); (· rfl)) | with_reducible refine ifT rfl ?_ | with_reducible refine ifF (not_not_intro rfl) ?_ | with_reducible refine ifT (by omega) ?_ | with_reducible refine ifF (by omega) ?_)
    refine ldrw h.gx (v := .int .i64 z) rfl ?_
    repeat (first | refine To.go ?_ | with_reducible refine And.intro (by first | omega | exact ⟨rfl, rfl⟩) ?_ | ((with_reducible apply opt); (· (first | with_reducible assumption | rfl))) | ((with_reducible apply ldrw); (· (first | with_reducible assumption | (simp (disch := omega) only [go_sem, *]; try rfl))); (· (first | with_reducible assumption | rfl))) | ((with_reducible apply ldro); (· (first | with_reducible assumption | (simp (disch := omega) only [go_sem, *]; try rfl))); (· (first | with_reducible assumption | rfl))) | ((with_reducible apply st1); (· (first | with_reducible assumption | (simp (disch := omega) only [go_sem, *]; try rfl))); (· simp); (· rfl)) | with_reducible refine ifT rfl ?_ | with_reducible refine ifF (not_not_intro rfl) ?_ | with_reducible refine ifT (by omega) ?_ | with_reducible refine ifF (by omega) ?_)
    exact ⟨h.g0.bump _, by simp only [Mem.next_bump]; omega, fun b hb _ => rfl, .inr ⟨z, q, hz, hD, h.bump _⟩⟩
end
end Go.Vit
