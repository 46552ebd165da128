/- Lists that are cut short, repeated, put together. -/
import Derived.Test.YtcliekhikcaoiaaV5X1
import Derived.Test.YtcliekhikcaoiaaVm3
set_option linter.unusedVariables false
set_option linter.unusedSimpArgs false
set_option linter.unusedSimpArgs false
set_option maxRecDepth 20000
namespace Go.Vit
open Go.Proofs
theorem getD_take {L : List Int} {n i : Nat} (h : i < n) : (L.take n).getD i 0 = L.getD i 0 := by
  rw [List.getD_eq_getElem?_getD, List.getElem?_take_of_lt h, ← List.getD_eq_getElem?_getD]
theorem deflate_told {a : AV} {L : List Int} {least : Nat} {σ : Mem} (ha : RdC σ a L) (hl : L.length ≤ 2 ^ 40) (h40 : least ≤ 2 ^ 40) :
    ACalls PG n_deflate_told [a, .int .i64 (least : Nat)] σ fun w σ' => RdC σ' w (tld least L) ∧ blkOf w = blkOf a ∧ σ.Same σ' := by
  refine ok_deflate_told fun live => ?_
  unfold F_deflate_told
  have hla := ha.o.lt live
  refine loop1 (fun (n : Nat) (v : AV) σ' => n ≤ L.length ∧ RdC σ v (L.take n) ∧ blkOf v = blkOf a ∧ told least L n = tld least L ∧ σ.Same σ') (fun n => n) L.length ⟨Nat.le_refl _, by rw [List.take_length]; exact ha, rfl, rfl, (Mem.Same.refl σ).bump _⟩ ?_
  rintro n v σ1 ⟨hn, hv, hb, ht, s1⟩
  unfold F_deflate_told_l1
  have hf : ∀ {σ' : Mem}, σ.Same σ' → ∀ b ∈ blkOf v, σ'.get b = σ.get b := fun s b h => s.get b (hla b (by rw [← hb]; exact h))
  have hlen : (L.take n).length = n := by rw [List.length_take]; omega
  have stop : ¬ (least < n ∧ L.getD (n - 1) 0 = 0) → ∀ k, RdC (σ1.bump k) v (tld least L) ∧ blkOf v = blkOf a ∧ σ.Same (σ1.bump k) := by
    intro h k
    have e : tld least L = L.take n := by
      rw [← ht]
      cases n with
      | zero => rfl
      | succ n => rw [told, if_neg (by simpa using h)]
    rw [e]
    exact ⟨hv.keep (hf (s1.bump k)), hb, s1.bump k⟩
  have hv1 := hv.keep (hf s1)
  refine hv1.o.len ?_
  rw [hlen]
  refine ifD (fun h1 => ?_) (fun h1 => ?_)
  · refine hv1.o.len ?_
    rw [hlen]
    refine iW_of (by omega) ?_
    refine hv1.o.rd (σ' := σ1.bump 13) (fun _ _ => rfl) (i := n - 1) (by omega) (by omega) ?_
    rw [getD_take (by omega)]
    refine ifD (fun h2 => ?_) (fun h2 => ?_)
    · refine hv1.o.len ?_
      rw [hlen]
      refine iW_of (by omega) ?_
      refine hv1.cut (m := n - 1) (by omega) (by omega) ?_
      intro w hw hbw
      rw [List.take_take, Nat.min_eq_left (by omega)] at hw
      refine again ⟨n - 1, ⟨by omega, hw.keep fun b h => ?_, hbw.trans hb, ?_, s1.bump _⟩, by omega⟩
      · rw [hbw] at h; exact (hf s1 b h).symm
      · rw [← ht]
        obtain ⟨m, rfl⟩ : ∃ m, n = m + 1 := ⟨n - 1, by omega⟩
        rw [Nat.add_sub_cancel] at h2 ⊢
        exact (if_pos ⟨by omega, h2⟩).symm
    · exact stop (fun h => h2 h.2) _
  · exact stop (fun h => h1 (by omega)) _
/-! ### Lists put together -/
def Gr (σ0 σ : Mem) (v : AV) (L : List Int) : Prop := (v = .nils ∧ L = []) ∨ ∃ b cells, v = .slice b 0 L.length (.op 1) ∧ σ.get b = some (.rw cells) ∧ cells.all AV.one = true ∧ L.length ≤ cells.length ∧ cells.take L.length = ic L ∧ σ0.next ≤ b ∧ b < σ.next
theorem Gr.same {σ0 σ σ' : Mem} {v : AV} {L : List Int} (h : Gr σ0 σ v L) (s : σ.Same σ') : Gr σ0 σ' v L := by
  rcases h with h | ⟨b, cells, h1, h2, h3, h4, h5, h6, h7⟩
  · exact .inl h
  · exact .inr ⟨b, cells, h1, (s.get b h7).trans h2, h3, h4, h5, h6, Nat.lt_of_lt_of_le h7 s.next⟩
theorem Gr.o {σ0 σ : Mem} {v : AV} {L : List Int} (h : Gr σ0 σ v L) : RdO 1 σ v (ic L) L.length := by
  rcases h with ⟨h1, h2⟩ | ⟨b, cells, h1, h2, h3, h4, h5, _⟩
  · subst h2; exact .inl ⟨h1, rfl, rfl⟩
  · exact .inr ⟨b, 0, _, h1, by rw [ic_len, Nat.mul_one], _, cells, h2, rfl, by rw [List.drop_zero, Nat.mul_one]; exact h5, by omega⟩
theorem Gr.fresh {σ0 σ : Mem} {v : AV} {L : List Int} (h : Gr σ0 σ v L) : (∀ b ∈ blkOf v, σ0.next ≤ b ∧ b < σ.next) ∧ v.one = true := by
  rcases h with ⟨h1, _⟩ | ⟨b, cells, h1, h2, h3, h4, h5, h6⟩
  · subst h1; exact ⟨fun b hb => by simp [blkOf] at hb, rfl⟩
  · subst h1; exact ⟨fun b' hb => by simp only [blkOf, List.mem_singleton] at hb; subst hb; exact h6, rfl⟩
theorem slices_Grow {n : Nat} {σ : Mem} (hn : n ≤ 2 ^ 40) : ACalls PG n_slices_Grow___int_int_ [.nils, .int .i64 (n : Nat)] σ fun w σ' => Gr σ σ' w [] ∧ σ.Same σ' := by
  refine ok_slices_Grow___int_int_ fun live => ?_
  unfold F_slices_Grow___int_int_
  refine joinI ?_
  refine ifF (by omega) ?_
  unfold F_slices_Grow___int_int__j1
  refine To.go ?_
  refine To.go ?_
  refine iW_of (by omega) ?_
  refine iW_of (by omega) ?_
  refine joinI ?_
  refine ifD (fun h => ?_) (fun h => ?_)
  · refine To.go ?_
    refine And.intro (show (0 : Int) ≤ 0 ∧ (0 : Int) ≤ 0 ∧ (0 : Int) ≤ ((0 : Nat) : Int) by decide) ?_
    refine And.intro (fun h0 => by omega) (fun _ => ⟨⟨by omega, ?_⟩, rfl, ?_⟩)
    · rw [show ((n : Nat) : Int) - (0 - 0) = (n : Nat) from by omega, Int.toNat_natCast]
      exact ⟨by omega, by omega⟩
    · refine To.go ?_
      refine And.intro ⟨rfl, Int.le_refl _, show (0 : Int) ≤ 0 by decide, show (0 : Int) ≤ ((_ : Nat) : Int) by omega⟩ ?_
      unfold F_slices_Grow___int_int__j2
      refine ⟨.inr ⟨σ.next + 3 + 15, _, rfl, gB gS', ?_, by simp, by simp [ic], ?_⟩, ?_⟩
      · rw [List.all_eq_true]
        intro x hx
        obtain ⟨l, h1, h2⟩ := List.mem_flatten.1 hx
        rw [List.eq_of_mem_replicate h1, List.mem_singleton] at h2
        subst h2; rfl
      · simp only [Mem.next_put, Mem.next_bump]; omega
      · repeat (with_reducible first | assumption | exact Mem.Only.refl _ _ | exact Mem.Same.refl _ | refine Mem.Only.bump ?_ _ | refine Mem.Only.put ?_ (by simp) _ | refine Mem.Only.put ?_ (.inr (by first | omega | (simp only [Mem.next_bump, Mem.next_put]; omega))) _ | refine Mem.Same.bump ?_ _ | refine Mem.Same.put ?_ (by first | omega | (simp only [Mem.next_bump, Mem.next_put]; omega)) _)
  · unfold F_slices_Grow___int_int__j2
    exact ⟨.inl ⟨rfl, rfl⟩, (((Mem.Same.refl σ).bump _).bump _).bump _⟩
end Go.Vit
