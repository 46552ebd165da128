/- The document's stored blocks. -/
import Derived.Test.YtjddffdjbeemaaaV3R3
set_option linter.unusedVariables false
set_option linter.unusedSimpArgs false
set_option linter.unusedSimpArgs false
set_option maxRecDepth 20000
namespace Go.Vit
open Go.Proofs
section
variable {σ σ' : Mem} {o : List Nat} {x r p : Nat} {s : ByteArray} {most e : Int} {out : List UInt8} {v : AV} {β : Type} {D : Except Int (β × Nat)} {m : Rd β}
theorem Rmv.push {bytes : List UInt8} {σ2 : Mem} {id m : Nat} {src : AV} {K : Mem → Prop} (h : Rmv σ o x r s p most out v e) (s2 : σ.Same σ2) (hx : ∀ K : Nat → List AV → Prop, K m (bl bytes) → srcW σ2 1 src K) (hm : bytes.length = m) (hid : σ.next ≤ id ∧ id < σ2.next) (hroom : bytes = [] ∨ (out.length : Int) + bytes.length ≤ most)
    (hk : ∀ o' v' σ', Rmv σ' o' x r s p most (out ++ bytes) v' e → Grow o o' σ σ' → σ'.next = σ2.next → K σ') : apW 1 1 id σ2 v src fun v' σ3 => nfW 1 (.ptr x 0) fun w => stW 1 σ3 w v' K := by
  obtain ⟨rfl, g2, g3, g4, g5, g6, g7, g8, g9, g10, g11, g12⟩ := h
  have hm47 : out.length + m ≤ 2 ^ 40 := by
    rcases hroom with rfl | hr
    · rcases g10 with rfl | h
      · simp at hm ⊢; omega
      · simp at hm; omega
    · omega
  refine OwnS.append (n := out.length) (m := m) (cs := bl out) (c := bl bytes) (g7.keep fun b hb => s2.get b (g9 b (by simp [hb]))) hx (fun e => by rw [List.length_eq_zero_iff.1 (hm.trans e)]; rfl) (by rw [bl_length]; omega) (bl_one _) (bl_one _) (by omega) (fun hb => by have := g9 id (by simp [hb]); omega) ?_
  intro v' σ3 own3 hn3 hg3 hb3
  rw [bl_append] at own3
  have hx1 : x < σ.next := g9 x (by simp)
  have hr1 : r < σ.next := g9 r (by simp)
  have k3 : ∀ b, b < σ.next → b ∉ blkOf v → σ3.get b = σ.get b := fun b hb hn => by rw [hg3 b hn (by omega), s2.get b hb]
  have x3 : σ3.get x = some (.rw [.ptr r 0, v, .int .i64 most, .int .i64 e]) := by rw [k3 x hx1 g3]; exact g5
  have hv' : ∀ b ∈ blkOf v', (b ∈ blkOf v ∧ b < σ.next) ∨ b = id := fun b hb => (hb3 b hb).imp (fun h => ⟨h, g9 b (by simp [h])⟩) fun h => h
  have xv' : x ∉ blkOf v' := fun hb => by rcases hv' x hb with h | h; exact g3 h.1; omega
  have rv' : r ∉ blkOf v' := fun hb => by rcases hv' r hb with h | h; exact g4 h.1; omega
  refine To.go ?_
  refine st1 x3 (by simp) own3.rdO.one ?_
  refine hk (x :: r :: blkOf v') v' _ ⟨rfl, g2, xv', rv', by rw [gS']; rfl, ?_, ?_, g8, ?_, ?_, g11, g12⟩ ⟨⟨?_, ?_⟩, ?_, ?_⟩ hn3
  · rw [Mem.get_put_ne _ g2.symm, k3 r hr1 g4]; exact g6
  · rw [List.length_append, hm]
    exact own3.keep fun b hb => by rw [Mem.get_put_ne _ (by rintro rfl; exact xv' hb)]
  · intro b hb
    rw [Mem.next_put, hn3]
    simp only [List.mem_cons] at hb
    have := s2.next
    rcases hb with rfl | rfl | hb
    · omega
    · omega
    · rcases hv' b hb with h | h <;> omega
  · rcases hroom with rfl | hr
    · rw [List.append_nil]; exact g10
    · right; rw [List.length_append]; omega
  · rw [Mem.next_put, hn3]; exact s2.next
  · intro b hb hn
    simp only [List.mem_cons, not_or] at hn
    rw [Mem.get_put_ne _ hn.1, k3 b hb hn.2.2]
  · intro b hb
    simp only [List.mem_cons] at hb ⊢
    rcases hb with h | h | h
    · exact .inl (.inl h)
    · exact .inl (.inr (.inl h))
    · rcases hv' b h with h | h
      · exact .inl (.inr (.inr h.1))
      · exact .inr (by omega)
  · intro b hb
    rw [Mem.next_put, hn3]
    simp only [List.mem_cons] at hb
    have := s2.next
    rcases hb with rfl | rfl | hb
    · omega
    · omega
    · rcases hv' b hb with h | h <;> omega
theorem rbits_dead {n z : Int} (h : Rmv σ o x r s p most out v z) (hz : z ≠ 0) : ACalls PG n_ref03_inflater_bits [.ptr x 0, .int .i64 n] σ fun w σ' => w = .int .i64 0 ∧ σ.Same σ' := by
  refine ok_ref03_inflater_bits fun live => ?_
  unfold F_ref03_inflater_bits
  repeat (first | refine To.go ?_ | with_reducible refine And.intro (by first | omega | exact ⟨rfl, rfl⟩) ?_ | ((with_reducible apply opt); (· (first | with_reducible assumption | rfl))) | ((with_reducible apply ldrw); (· (first | with_reducible assumption | (simp (disch := omega) only [go_sem, *]; try rfl))); (· (first | with_reducible assumption | rfl))) | ((with_reducible apply ldro); (· (first | with_reducible assumption | (simp (disch := omega) only [go_sem, *]; try rfl))); (· (first | with_reducible assumption | rfl))) | ((with_reducible apply st1); (· (first | with_reducible assumption | (simp (disch := omega) only [go_sem, *]; try rfl))); (· simp); (· rfl)) | with_reducible refine ifT rfl ?_ | with_reducible refine ifF (not_not_intro rfl) ?_ | with_reducible refine ifT (by omega) ?_ | with_reducible refine ifF (by omega) ?_)
  refine ldrw h.gx (v := .int .i64 z) rfl ?_
  repeat (first | refine To.go ?_ | with_reducible refine And.intro (by first | omega | exact ⟨rfl, rfl⟩) ?_ | ((with_reducible apply opt); (· (first | with_reducible assumption | rfl))) | ((with_reducible apply ldrw); (· (first | with_reducible assumption | (simp (disch := omega) only [go_sem, *]; try rfl))); (· (first | with_reducible assumption | rfl))) | ((with_reducible apply ldro); (· (first | with_reducible assumption | (simp (disch := omega) only [go_sem, *]; try rfl))); (· (first | with_reducible assumption | rfl))) | ((with_reducible apply st1); (· (first | with_reducible assumption | (simp (disch := omega) only [go_sem, *]; try rfl))); (· simp); (· rfl)) | with_reducible refine ifT rfl ?_ | with_reducible refine ifF (not_not_intro rfl) ?_ | with_reducible refine ifT (by omega) ?_ | with_reducible refine ifF (by omega) ?_)
  exact ⟨rfl, (Mem.Same.refl σ).bump _⟩
theorem rbytes_dead {n z : Int} (h : Rmv σ o x r s p most out v z) (hz : z ≠ 0) : ACalls PG n_ref03_inflater_bytes [.ptr x 0, .int .i64 n] σ fun w σ' => w = .str ⟨#[]⟩ ∧ σ.Same σ' := by
  refine ok_ref03_inflater_bytes fun live => ?_
  unfold F_ref03_inflater_bytes
  repeat (first | refine To.go ?_ | with_reducible refine And.intro (by first | omega | exact ⟨rfl, rfl⟩) ?_ | ((with_reducible apply opt); (· (first | with_reducible assumption | rfl))) | ((with_reducible apply ldrw); (· (first | with_reducible assumption | (simp (disch := omega) only [go_sem, *]; try rfl))); (· (first | with_reducible assumption | rfl))) | ((with_reducible apply ldro); (· (first | with_reducible assumption | (simp (disch := omega) only [go_sem, *]; try rfl))); (· (first | with_reducible assumption | rfl))) | ((with_reducible apply st1); (· (first | with_reducible assumption | (simp (disch := omega) only [go_sem, *]; try rfl))); (· simp); (· rfl)) | with_reducible refine ifT rfl ?_ | with_reducible refine ifF (not_not_intro rfl) ?_ | with_reducible refine ifT (by omega) ?_ | with_reducible refine ifF (by omega) ?_)
  refine ldrw h.gx (v := .int .i64 z) rfl ?_
  repeat (first | refine To.go ?_ | with_reducible refine And.intro (by first | omega | exact ⟨rfl, rfl⟩) ?_ | ((with_reducible apply opt); (· (first | with_reducible assumption | rfl))) | ((with_reducible apply ldrw); (· (first | with_reducible assumption | (simp (disch := omega) only [go_sem, *]; try rfl))); (· (first | with_reducible assumption | rfl))) | ((with_reducible apply ldro); (· (first | with_reducible assumption | (simp (disch := omega) only [go_sem, *]; try rfl))); (· (first | with_reducible assumption | rfl))) | ((with_reducible apply st1); (· (first | with_reducible assumption | (simp (disch := omega) only [go_sem, *]; try rfl))); (· simp); (· rfl)) | with_reducible refine ifT rfl ?_ | with_reducible refine ifF (not_not_intro rfl) ?_ | with_reducible refine ifT (by omega) ?_ | with_reducible refine ifF (by omega) ?_)
  exact ⟨rfl, (Mem.Same.refl σ).bump _⟩
theorem rnext_dead {z : Int} {t : AV} (h : Rmv σ o x r s p most out v z) (hz : z ≠ 0) : ACalls PG n_ref03_inflater_next [.ptr x 0, t] σ fun w σ' => w = .int .i64 0 ∧ σ.Same σ' := by
  refine ok_ref03_inflater_next fun live => ?_
  unfold F_ref03_inflater_next
  repeat (first | refine To.go ?_ | with_reducible refine And.intro (by first | omega | exact ⟨rfl, rfl⟩) ?_ | ((with_reducible apply opt); (· (first | with_reducible assumption | rfl))) | ((with_reducible apply ldrw); (· (first | with_reducible assumption | (simp (disch := omega) only [go_sem, *]; try rfl))); (· (first | with_reducible assumption | rfl))) | ((with_reducible apply ldro); (· (first | with_reducible assumption | (simp (disch := omega) only [go_sem, *]; try rfl))); (· (first | with_reducible assumption | rfl))) | ((with_reducible apply st1); (· (first | with_reducible assumption | (simp (disch := omega) only [go_sem, *]; try rfl))); (· simp); (· rfl)) | with_reducible refine ifT rfl ?_ | with_reducible refine ifF (not_not_intro rfl) ?_ | with_reducible refine ifT (by omega) ?_ | with_reducible refine ifF (by omega) ?_)
  refine ldrw h.gx (v := .int .i64 z) rfl ?_
  repeat (first | refine To.go ?_ | with_reducible refine And.intro (by first | omega | exact ⟨rfl, rfl⟩) ?_ | ((with_reducible apply opt); (· (first | with_reducible assumption | rfl))) | ((with_reducible apply ldrw); (· (first | with_reducible assumption | (simp (disch := omega) only [go_sem, *]; try rfl))); (· (first | with_reducible assumption | rfl))) | ((with_reducible apply ldro); (· (first | with_reducible assumption | (simp (disch := omega) only [go_sem, *]; try rfl))); (· (first | with_reducible assumption | rfl))) | ((with_reducible apply st1); (· (first | with_reducible assumption | (simp (disch := omega) only [go_sem, *]; try rfl))); (· simp); (· rfl)) | with_reducible refine ifT rfl ?_ | with_reducible refine ifF (not_not_intro rfl) ?_ | with_reducible refine ifT (by omega) ?_ | with_reducible refine ifF (by omega) ?_)
  exact ⟨rfl, (Mem.Same.refl σ).bump _⟩
theorem rtable_dead {z : Int} {t : AV} (h : Rmv σ o x r s p most out v z) (hz : z ≠ 0) : ACalls PG n_ref03_inflater_table [.ptr x 0, t] σ fun w σ' => w = .nilp ∧ σ.Same σ' := by
  refine ok_ref03_inflater_table fun live => ?_
  unfold F_ref03_inflater_table
  repeat (first | refine To.go ?_ | with_reducible refine And.intro (by first | omega | exact ⟨rfl, rfl⟩) ?_ | ((with_reducible apply opt); (· (first | with_reducible assumption | rfl))) | ((with_reducible apply ldrw); (· (first | with_reducible assumption | (simp (disch := omega) only [go_sem, *]; try rfl))); (· (first | with_reducible assumption | rfl))) | ((with_reducible apply ldro); (· (first | with_reducible assumption | (simp (disch := omega) only [go_sem, *]; try rfl))); (· (first | with_reducible assumption | rfl))) | ((with_reducible apply st1); (· (first | with_reducible assumption | (simp (disch := omega) only [go_sem, *]; try rfl))); (· simp); (· rfl)) | with_reducible refine ifT rfl ?_ | with_reducible refine ifF (not_not_intro rfl) ?_ | with_reducible refine ifT (by omega) ?_ | with_reducible refine ifF (by omega) ?_)
  refine ldrw h.gx (v := .int .i64 z) rfl ?_
  repeat (first | refine To.go ?_ | with_reducible refine And.intro (by first | omega | exact ⟨rfl, rfl⟩) ?_ | ((with_reducible apply opt); (· (first | with_reducible assumption | rfl))) | ((with_reducible apply ldrw); (· (first | with_reducible assumption | (simp (disch := omega) only [go_sem, *]; try rfl))); (· (first | with_reducible assumption | rfl))) | ((with_reducible apply ldro); (· (first | with_reducible assumption | (simp (disch := omega) only [go_sem, *]; try rfl))); (· (first | with_reducible assumption | rfl))) | ((with_reducible apply st1); (· (first | with_reducible assumption | (simp (disch := omega) only [go_sem, *]; try rfl))); (· simp); (· rfl)) | with_reducible refine ifT rfl ?_ | with_reducible refine ifF (not_not_intro rfl) ?_ | with_reducible refine ifT (by omega) ?_ | with_reducible refine ifF (by omega) ?_)
  exact ⟨rfl, (Mem.Same.refl σ).bump _⟩
theorem Rmv.same {s2 : Mem} (h : Rmv σ o x r s p most out v e) (hs : σ.Same s2) : Rmv s2 o x r s p most out v e := h.keep (fun b hb => hs.get b (h.lt b hb)) hs.next
theorem xor_full {n m : Nat} (hn : n < 65536) : n ^^^ m = 65535 ↔ m = 65535 - n := by
  have h : n ^^^ 65535 = 65535 - n := by
    have h1 : (BitVec.ofNat 16 n ^^^ BitVec.allOnes 16).toNat = (~~~ BitVec.ofNat 16 n).toNat := by rw [BitVec.xor_allOnes]
    rw [BitVec.toNat_xor, BitVec.toNat_not, BitVec.toNat_allOnes, BitVec.toNat_ofNat, Nat.mod_eq_of_lt (by omega)] at h1
    exact h1
  constructor
  · intro e
    rw [← h, ← e, ← Nat.xor_assoc, Nat.xor_self, Nat.zero_xor]
  · rintro rfl
    rw [← h, ← Nat.xor_assoc, Nat.xor_self, Nat.zero_xor]
theorem rBind_pure {α β : Type} (a : α) (g : α → Rd β) : rBind (rPure a) g = g a := rfl
def num2 (b : ByteArray) : Nat := byteAt b 0 ||| byteAt b 1 * 256
theorem num2_eq (b : ByteArray) : num2 b = byteAt b 0 + 256 * byteAt b 1 ∧ num2 b < 65536 := by
  have b0 := byteAt_lt b 0
  have b1 := byteAt_lt b 1
  have := or_shift (a := byteAt b 0) (b := byteAt b 1) (n := 8) (by omega)
  rw [show (2 : Nat) ^ 8 = 256 from rfl] at this
  unfold num2
  rw [this]; omega
theorem rStored_eq (most : Int) (out : List UInt8) (k : List UInt8 → Rd β) : rBind (rStored most out) k = rBind (rBytes 2) fun a => rBind (rBytes 2) fun b => if num2 a ^^^ num2 b ≠ 65535 then rFail 14 else rBind (rBytes (num2 a)) fun b => rBind (rRoom most out (num2 a)) fun _ => k (out ++ bytesL b) := by
  unfold rStored rPair
  rw [rBind_assoc, rBind_assoc]
  congr 1
  funext a
  rw [rBind_pure, rBind_assoc, rBind_assoc]
  congr 1
  funext b
  rw [rBind_pure]
  unfold num2
  by_cases h : (byteAt a 0 ||| byteAt a 1 * 256) ^^^ (byteAt b 0 ||| byteAt b 1 * 256) ≠ 65535
  · rw [if_pos h, if_pos h]; rfl
  · rw [if_neg h, if_neg h, rBind_assoc]
    congr 1
    funext c
    rw [rBind_assoc]
    rfl
theorem ref03_stored {k : List UInt8 → Rd β} {q : Nat} (h : Rmv σ o x r s q most out v 0) (hD : rBind (rStored most out) k s q = D) :
    ACalls PG n_ref03_inflater_stored [.ptr x 0] σ fun w σ' => ∃ o' v' out', Grow o o' σ σ' ∧ Rst σ' o' x r s most out' v' (k out') D := by
  refine ok_ref03_inflater_stored fun live => ?_
  unfold F_ref03_inflater_stored
  rw [rStored_eq] at hD
  refine callW_of (rbytes (n := 2) (.inl ⟨q, hD, h.bump 3⟩)) ?_
  rintro _ σ1 ⟨a, rfl, g1, h1⟩
  replace g1 := g1.ob
  repeat (first | refine To.go ?_ | with_reducible refine And.intro (by first | omega | exact ⟨rfl, rfl⟩) ?_ | ((with_reducible apply opt); (· (first | with_reducible assumption | rfl))) | ((with_reducible apply ldrw); (· (first | with_reducible assumption | (simp (disch := omega) only [go_sem, *]; try rfl))); (· (first | with_reducible assumption | rfl))) | ((with_reducible apply ldro); (· (first | with_reducible assumption | (simp (disch := omega) only [go_sem, *]; try rfl))); (· (first | with_reducible assumption | rfl))) | ((with_reducible apply st1); (· (first | with_reducible assumption | (simp (disch := omega) only [go_sem, *]; try rfl))); (· simp); (· rfl)) | with_reducible refine ifT rfl ?_ | with_reducible refine ifF (not_not_intro rfl) ?_ | with_reducible refine ifT (by omega) ?_ | with_reducible refine ifF (by omega) ?_)
  rcases h1 with ⟨ha, q1, hD, h1⟩ | ⟨z, q1, hz, hD, h1⟩
  · refine callW_of (rbytes (n := 2) (.inl ⟨q1, hD, h1.bump 3⟩)) ?_
    rintro _ σ2 ⟨b, rfl, g2, h2⟩
    replace g2 := g1.trans g2.ob
    rcases h2 with ⟨hb, q2, hD2, h2⟩ | ⟨z, q, hz, hD, h2⟩
    · repeat (first | refine To.go ?_ | with_reducible refine And.intro (by first | omega | exact ⟨rfl, rfl⟩) ?_ | ((with_reducible apply opt); (· (first | with_reducible assumption | rfl))) | ((with_reducible apply ldrw); (· (first | with_reducible assumption | (simp (disch := omega) only [go_sem, *]; try rfl))); (· (first | with_reducible assumption | rfl))) | ((with_reducible apply ldro); (· (first | with_reducible assumption | (simp (disch := omega) only [go_sem, *]; try rfl))); (· (first | with_reducible assumption | rfl))) | ((with_reducible apply st1); (· (first | with_reducible assumption | (simp (disch := omega) only [go_sem, *]; try rfl))); (· simp); (· rfl)) | with_reducible refine ifT rfl ?_ | with_reducible refine ifF (not_not_intro rfl) ?_ | with_reducible refine ifT (by omega) ?_ | with_reducible refine ifF (by omega) ?_)
      refine ldrw h2.gx (v := .int .i64 0) rfl ?_
      have a0 := byteAt_lt a 0
      have a1 := byteAt_lt a 1
      have b0 := byteAt_lt b 0
      have b1 := byteAt_lt b 1
      have na := num2_eq a
      have nb := num2_eq b
      repeat (first | refine To.go ?_ | with_reducible refine And.intro (by first | omega | exact ⟨rfl, rfl⟩) ?_ | ((with_reducible apply opt); (· (first | with_reducible assumption | rfl))) | ((with_reducible apply ldrw); (· (first | with_reducible assumption | (simp (disch := omega) only [go_sem, *]; try rfl))); (· (first | with_reducible assumption | rfl))) | ((with_reducible apply ldro); (· (first | with_reducible assumption | (simp (disch := omega) only [go_sem, *]; try rfl))); (· (first | with_reducible assumption | rfl))) | ((with_reducible apply st1); (· (first | with_reducible assumption | (simp (disch := omega) only [go_sem, *]; try rfl))); (· simp); (· rfl)) | with_reducible refine ifT rfl ?_ | with_reducible refine ifF (not_not_intro rfl) ?_ | with_reducible refine ifT (by omega) ?_ | with_reducible refine ifF (by omega) ?_)
      obtain ⟨n, hn⟩ : ∃ n, num2 a = n := ⟨_, rfl⟩
      obtain ⟨m, hm⟩ : ∃ m, num2 b = m := ⟨_, rfl⟩
      rw [hn, hm] at hD2
      rw [hn] at na
      rw [hm] at nb
      rw [show ((byteAt a 0 : Nat) : Int) + 256 * (byteAt a 1 : Nat) = (n : Nat) from by omega, show ((byteAt b 0 : Nat) : Int) + 256 * (byteAt b 1 : Nat) = (m : Nat) from by omega]
      by_cases hx : n ^^^ m ≠ 65535
      · rw [if_pos hx] at hD2
        have hne : m ≠ 65535 - n := fun e => hx ((xor_full na.2).2 e)
        refine ifT (by omega) ?_
        repeat (first | refine To.go ?_ | with_reducible refine And.intro (by first | omega | exact ⟨rfl, rfl⟩) ?_ | ((with_reducible apply opt); (· (first | with_reducible assumption | rfl))) | ((with_reducible apply ldrw); (· (first | with_reducible assumption | (simp (disch := omega) only [go_sem, *]; try rfl))); (· (first | with_reducible assumption | rfl))) | ((with_reducible apply ldro); (· (first | with_reducible assumption | (simp (disch := omega) only [go_sem, *]; try rfl))); (· (first | with_reducible assumption | rfl))) | ((with_reducible apply st1); (· (first | with_reducible assumption | (simp (disch := omega) only [go_sem, *]; try rfl))); (· simp); (· rfl)) | with_reducible refine ifT rfl ?_ | with_reducible refine ifF (not_not_intro rfl) ?_ | with_reducible refine ifT (by omega) ?_ | with_reducible refine ifF (by omega) ?_)
        refine st1 h2.gx (by simp) rfl ?_
        have hs := (h2.bump 29).set 14
        exact ⟨o, v, out, g2.bump 29 |>.trans hs.2, .inr ⟨14, q2, by decide, hD2.symm, hs.1⟩⟩
      · rw [if_neg hx] at hD2
        have heq : m = 65535 - n := (xor_full na.2).1 (Decidable.not_not.1 hx)
        refine ifF (by omega) ?_
        refine callW_of (rbytes (n := n) (.inl ⟨q2, hD2, h2.bump 29⟩)) ?_
        rintro _ σ3 ⟨b, rfl, g3, h3⟩
        replace g3 := g2.trans g3.ob
        rcases h3 with ⟨hb, q3, hD3, h3⟩ | ⟨z, q3, hz, hD3, h3⟩
        · repeat (first | refine To.go ?_ | with_reducible refine And.intro (by first | omega | exact ⟨rfl, rfl⟩) ?_ | ((with_reducible apply opt); (· (first | with_reducible assumption | rfl))) | ((with_reducible apply ldrw); (· (first | with_reducible assumption | (simp (disch := omega) only [go_sem, *]; try rfl))); (· (first | with_reducible assumption | rfl))) | ((with_reducible apply ldro); (· (first | with_reducible assumption | (simp (disch := omega) only [go_sem, *]; try rfl))); (· (first | with_reducible assumption | rfl))) | ((with_reducible apply st1); (· (first | with_reducible assumption | (simp (disch := omega) only [go_sem, *]; try rfl))); (· simp); (· rfl)) | with_reducible refine ifT rfl ?_ | with_reducible refine ifF (not_not_intro rfl) ?_ | with_reducible refine ifT (by omega) ?_ | with_reducible refine ifF (by omega) ?_)
          refine ldrw h3.gx (v := .int .i64 0) rfl ?_
          repeat (first | refine To.go ?_ | with_reducible refine And.intro (by first | omega | exact ⟨rfl, rfl⟩) ?_ | ((with_reducible apply opt); (· (first | with_reducible assumption | rfl))) | ((with_reducible apply ldrw); (· (first | with_reducible assumption | (simp (disch := omega) only [go_sem, *]; try rfl))); (· (first | with_reducible assumption | rfl))) | ((with_reducible apply ldro); (· (first | with_reducible assumption | (simp (disch := omega) only [go_sem, *]; try rfl))); (· (first | with_reducible assumption | rfl))) | ((with_reducible apply st1); (· (first | with_reducible assumption | (simp (disch := omega) only [go_sem, *]; try rfl))); (· simp); (· rfl)) | with_reducible refine ifT rfl ?_ | with_reducible refine ifF (not_not_intro rfl) ?_ | with_reducible refine ifT (by omega) ?_ | with_reducible refine ifF (by omega) ?_)
          refine ldrw h3.gx (v := v) rfl ?_
          refine h3.own.rdO.len ?_
          have hms := h3.ms
          have hroom := h3.room
          have hob : out.length ≤ 2 ^ 40 := by
            rcases hroom with rfl | h
            · simp
            · omega
          refine iW_of (by omega) ?_
          repeat (first | refine To.go ?_ | with_reducible refine And.intro (by first | omega | exact ⟨rfl, rfl⟩) ?_ | ((with_reducible apply opt); (· (first | with_reducible assumption | rfl))) | ((with_reducible apply ldrw); (· (first | with_reducible assumption | (simp (disch := omega) only [go_sem, *]; try rfl))); (· (first | with_reducible assumption | rfl))) | ((with_reducible apply ldro); (· (first | with_reducible assumption | (simp (disch := omega) only [go_sem, *]; try rfl))); (· (first | with_reducible assumption | rfl))) | ((with_reducible apply st1); (· (first | with_reducible assumption | (simp (disch := omega) only [go_sem, *]; try rfl))); (· simp); (· rfl)) | with_reducible refine ifT rfl ?_ | with_reducible refine ifF (not_not_intro rfl) ?_ | with_reducible refine ifT (by omega) ?_ | with_reducible refine ifF (by omega) ?_)
          refine ldrw h3.gx (v := .int .i64 most) rfl ?_
          refine To.go ?_
          refine joinI ?_
          by_cases hr : most - out.length < n
          · rw [rBind_er (e := 5) (by unfold rRoom; rw [if_pos hr]; rfl)] at hD3
            refine ifT (by omega) ?_
            refine To.go ?_
            refine st1 h3.gx (by simp) rfl ?_
            have hs := (h3.bump 23).set 5
            unfold F_ref03_inflater_stored_j1
            repeat (first | refine To.go ?_ | with_reducible refine And.intro (by first | omega | exact ⟨rfl, rfl⟩) ?_ | ((with_reducible apply opt); (· (first | with_reducible assumption | rfl))) | ((with_reducible apply ldrw); (· (first | with_reducible assumption | (simp (disch := omega) only [go_sem, *]; try rfl))); (· (first | with_reducible assumption | rfl))) | ((with_reducible apply ldro); (· (first | with_reducible assumption | (simp (disch := omega) only [go_sem, *]; try rfl))); (· (first | with_reducible assumption | rfl))) | ((with_reducible apply st1); (· (first | with_reducible assumption | (simp (disch := omega) only [go_sem, *]; try rfl))); (· simp); (· rfl)) | with_reducible refine ifT rfl ?_ | with_reducible refine ifF (not_not_intro rfl) ?_ | with_reducible refine ifT (by omega) ?_ | with_reducible refine ifF (by omega) ?_)
            refine joinI ?_
            repeat (first | refine To.go ?_ | with_reducible refine And.intro (by first | omega | exact ⟨rfl, rfl⟩) ?_ | ((with_reducible apply opt); (· (first | with_reducible assumption | rfl))) | ((with_reducible apply ldrw); (· (first | with_reducible assumption | (simp (disch := omega) only [go_sem, *]; try rfl))); (· (first | with_reducible assumption | rfl))) | ((with_reducible apply ldro); (· (first | with_reducible assumption | (simp (disch := omega) only [go_sem, *]; try rfl))); (· (first | with_reducible assumption | rfl))) | ((with_reducible apply st1); (· (first | with_reducible assumption | (simp (disch := omega) only [go_sem, *]; try rfl))); (· simp); (· rfl)) | with_reducible refine ifT rfl ?_ | with_reducible refine ifF (not_not_intro rfl) ?_ | with_reducible refine ifT (by omega) ?_ | with_reducible refine ifF (by omega) ?_)
            unfold F_ref03_inflater_stored_j2
            exact ⟨o, v, out, (g3.bump 23 |>.trans hs.2).bump _, .inr ⟨5, q3, by decide, hD3.symm, hs.1.bump _⟩⟩
          · rw [rBind_ok (a := ()) (q := q3) (by unfold rRoom; rw [if_neg hr]; rfl)] at hD3
            refine ifF (by omega) ?_
            unfold F_ref03_inflater_stored_j1
            repeat (first | refine To.go ?_ | with_reducible refine And.intro (by first | omega | exact ⟨rfl, rfl⟩) ?_ | ((with_reducible apply opt); (· (first | with_reducible assumption | rfl))) | ((with_reducible apply ldrw); (· (first | with_reducible assumption | (simp (disch := omega) only [go_sem, *]; try rfl))); (· (first | with_reducible assumption | rfl))) | ((with_reducible apply ldro); (· (first | with_reducible assumption | (simp (disch := omega) only [go_sem, *]; try rfl))); (· (first | with_reducible assumption | rfl))) | ((with_reducible apply st1); (· (first | with_reducible assumption | (simp (disch := omega) only [go_sem, *]; try rfl))); (· simp); (· rfl)) | with_reducible refine ifT rfl ?_ | with_reducible refine ifF (not_not_intro rfl) ?_ | with_reducible refine ifT (by omega) ?_ | with_reducible refine ifF (by omega) ?_)
            refine ldrw h3.gx (v := .int .i64 0) rfl ?_
            refine To.go ?_
            refine joinI ?_
            repeat (first | refine To.go ?_ | with_reducible refine And.intro (by first | omega | exact ⟨rfl, rfl⟩) ?_ | ((with_reducible apply opt); (· (first | with_reducible assumption | rfl))) | ((with_reducible apply ldrw); (· (first | with_reducible assumption | (simp (disch := omega) only [go_sem, *]; try rfl))); (· (first | with_reducible assumption | rfl))) | ((with_reducible apply ldro); (· (first | with_reducible assumption | (simp (disch := omega) only [go_sem, *]; try rfl))); (· (first | with_reducible assumption | rfl))) | ((with_reducible apply st1); (· (first | with_reducible assumption | (simp (disch := omega) only [go_sem, *]; try rfl))); (· simp); (· rfl)) | with_reducible refine ifT rfl ?_ | with_reducible refine ifF (not_not_intro rfl) ?_ | with_reducible refine ifT (by omega) ?_ | with_reducible refine ifF (by omega) ?_)
            refine ldrw h3.gx (v := v) rfl ?_
            refine (h3.bump 19).push (bytes := bytesL b) (m := n) ((Mem.Same.refl _).bump 15) (fun K hK => src_str K (by rw [hb]; exact hK)) (by rw [bytesL_length, hb]) ⟨by omega, by simp only [Mem.next_bump]; omega⟩ (.inr (by rw [bytesL_length]; omega)) ?_
            intro o' v' σ5 h5 g5 n5
            unfold F_ref03_inflater_stored_j2
            exact ⟨o', v', _, g3.trans g5.ob, .inl ⟨q3, hD3, h5⟩⟩
        · repeat (first | refine To.go ?_ | with_reducible refine And.intro (by first | omega | exact ⟨rfl, rfl⟩) ?_ | ((with_reducible apply opt); (· (first | with_reducible assumption | rfl))) | ((with_reducible apply ldrw); (· (first | with_reducible assumption | (simp (disch := omega) only [go_sem, *]; try rfl))); (· (first | with_reducible assumption | rfl))) | ((with_reducible apply ldro); (· (first | with_reducible assumption | (simp (disch := omega) only [go_sem, *]; try rfl))); (· (first | with_reducible assumption | rfl))) | ((with_reducible apply st1); (· (first | with_reducible assumption | (simp (disch := omega) only [go_sem, *]; try rfl))); (· simp); (· rfl)) | with_reducible refine ifT rfl ?_ | with_reducible refine ifF (not_not_intro rfl) ?_ | with_reducible refine ifT (by omega) ?_ | with_reducible refine ifF (by omega) ?_)
          refine ldrw h3.gx (v := .int .i64 z) rfl ?_
          refine To.go ?_
          refine ifF hz ?_
          refine joinI ?_
          unfold F_ref03_inflater_stored_j3
          repeat (first | refine To.go ?_ | with_reducible refine And.intro (by first | omega | exact ⟨rfl, rfl⟩) ?_ | ((with_reducible apply opt); (· (first | with_reducible assumption | rfl))) | ((with_reducible apply ldrw); (· (first | with_reducible assumption | (simp (disch := omega) only [go_sem, *]; try rfl))); (· (first | with_reducible assumption | rfl))) | ((with_reducible apply ldro); (· (first | with_reducible assumption | (simp (disch := omega) only [go_sem, *]; try rfl))); (· (first | with_reducible assumption | rfl))) | ((with_reducible apply st1); (· (first | with_reducible assumption | (simp (disch := omega) only [go_sem, *]; try rfl))); (· simp); (· rfl)) | with_reducible refine ifT rfl ?_ | with_reducible refine ifF (not_not_intro rfl) ?_ | with_reducible refine ifT (by omega) ?_ | with_reducible refine ifF (by omega) ?_)
          refine ldrw h3.gx (v := .int .i64 z) rfl ?_
          refine To.go ?_
          refine joinI ?_
          refine ifF hz ?_
          unfold F_ref03_inflater_stored_j4
          exact ⟨o, v, out, (g3.bump _).bump _, .inr ⟨z, q3, hz, hD3, (h3.bump _).bump _⟩⟩
    · repeat (first | refine To.go ?_ | with_reducible refine And.intro (by first | omega | exact ⟨rfl, rfl⟩) ?_ | ((with_reducible apply opt); (· (first | with_reducible assumption | rfl))) | ((with_reducible apply ldrw); (· (first | with_reducible assumption | (simp (disch := omega) only [go_sem, *]; try rfl))); (· (first | with_reducible assumption | rfl))) | ((with_reducible apply ldro); (· (first | with_reducible assumption | (simp (disch := omega) only [go_sem, *]; try rfl))); (· (first | with_reducible assumption | rfl))) | ((with_reducible apply st1); (· (first | with_reducible assumption | (simp (disch := omega) only [go_sem, *]; try rfl))); (· simp); (· rfl)) | with_reducible refine ifT rfl ?_ | with_reducible refine ifF (not_not_intro rfl) ?_ | with_reducible refine ifT (by omega) ?_ | with_reducible refine ifF (by omega) ?_)
      refine ldrw h2.gx (v := .int .i64 z) rfl ?_
      repeat (first | refine To.go ?_ | with_reducible refine And.intro (by first | omega | exact ⟨rfl, rfl⟩) ?_ | ((with_reducible apply opt); (· (first | with_reducible assumption | rfl))) | ((with_reducible apply ldrw); (· (first | with_reducible assumption | (simp (disch := omega) only [go_sem, *]; try rfl))); (· (first | with_reducible assumption | rfl))) | ((with_reducible apply ldro); (· (first | with_reducible assumption | (simp (disch := omega) only [go_sem, *]; try rfl))); (· (first | with_reducible assumption | rfl))) | ((with_reducible apply st1); (· (first | with_reducible assumption | (simp (disch := omega) only [go_sem, *]; try rfl))); (· simp); (· rfl)) | with_reducible refine ifT rfl ?_ | with_reducible refine ifF (not_not_intro rfl) ?_ | with_reducible refine ifT (by omega) ?_ | with_reducible refine ifF (by omega) ?_)
      exact ⟨o, v, out, g2.bump _, .inr ⟨z, q, hz, hD, h2.bump _⟩⟩
  · refine callW_of (rbytes_dead (h1.bump 3) hz) ?_
    rintro _ σ2 ⟨rfl, s2⟩
    replace s2 := s2.ob
    have h2 := h1.same s2
    repeat (first | refine To.go ?_ | with_reducible refine And.intro (by first | omega | exact ⟨rfl, rfl⟩) ?_ | ((with_reducible apply opt); (· (first | with_reducible assumption | rfl))) | ((with_reducible apply ldrw); (· (first | with_reducible assumption | (simp (disch := omega) only [go_sem, *]; try rfl))); (· (first | with_reducible assumption | rfl))) | ((with_reducible apply ldro); (· (first | with_reducible assumption | (simp (disch := omega) only [go_sem, *]; try rfl))); (· (first | with_reducible assumption | rfl))) | ((with_reducible apply st1); (· (first | with_reducible assumption | (simp (disch := omega) only [go_sem, *]; try rfl))); (· simp); (· rfl)) | with_reducible refine ifT rfl ?_ | with_reducible refine ifF (not_not_intro rfl) ?_ | with_reducible refine ifT (by omega) ?_ | with_reducible refine ifF (by omega) ?_)
    refine ldrw h2.gx (v := .int .i64 z) rfl ?_
    repeat (first | refine To.go ?_ | with_reducible refine And.intro (by first | omega | exact ⟨rfl, rfl⟩) ?_ | ((with_reducible apply opt); (· (first | with_reducible assumption | rfl))) | ((with_reducible apply ldrw); (· (first | with_reducible assumption | (simp (disch := omega) only [go_sem, *]; try rfl))); (· (first | with_reducible assumption | rfl))) | ((with_reducible apply ldro); (· (first | with_reducible assumption | (simp (disch := omega) only [go_sem, *]; try rfl))); (· (first | with_reducible assumption | rfl))) | ((with_reducible apply st1); (· (first | with_reducible assumption | (simp (disch := omega) only [go_sem, *]; try rfl))); (· simp); (· rfl)) | with_reducible refine ifT rfl ?_ | with_reducible refine ifF (not_not_intro rfl) ?_ | with_reducible refine ifT (by omega) ?_ | with_reducible refine ifF (by omega) ?_)
    exact ⟨o, v, out, (g1.then s2).bump _, .inr ⟨z, q1, hz, hD, h2.bump _⟩⟩
end
end Go.Vit
