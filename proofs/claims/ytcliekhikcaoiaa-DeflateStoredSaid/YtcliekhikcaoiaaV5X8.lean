/- Fixed blocks. -/
import Derived.Test.YtcliekhikcaoiaaV5X7
set_option linter.unusedVariables false
set_option linter.unusedSimpArgs false
set_option linter.unusedSimpArgs false
set_option maxRecDepth 20000
namespace Go.Vit
open Go.Proofs
theorem fixL_rep : [List.replicate 144 (8 : Int), List.replicate 112 9, List.replicate 24 7, List.replicate 8 8].flatten = fixL := by decide +kernel
theorem fixD_rep : List.replicate 32 (5 : Int) = fixD := by decide +kernel
theorem fixL_chk : chk fixL = 0 := by decide +kernel
theorem fixD_chk : chk fixD = 0 := by decide +kernel
theorem fixL_lens : lens fixL := (chk_room fixL_chk).1
theorem fixD_lens : lens fixD := (chk_room fixD_chk).1
def fixedP (l : List Tok) : Nat × Nat := layToks fixL fixD (laP (0, 0) 3 3) l
theorem toks_okT {s : ByteArray} {k : Nat} (h : Done s k) : ∀ t ∈ toks s k, okT t := by
  intro t ht
  unfold toks at ht
  rw [List.mem_map] at ht
  obtain ⟨j, hj, rfl⟩ := ht
  rw [List.mem_range] at hj
  have hr := tk_right (s := s) (i := pos s j) (h.2 j hj)
  obtain ⟨t, hte⟩ : ∃ t, tkAt s j = t := ⟨_, rfl⟩
  have e : (tk s (pos s j)).1 = t := hte
  rw [e] at hr
  rw [hte]
  have h1 := hr.1
  unfold right at h1
  unfold okT
  by_cases h0 : t.2.1 = 0
  · rw [if_pos h0] at h1
    exact .inl ⟨h0, h1.2.1, h1.2.2⟩
  · rw [if_neg h0] at h1
    exact .inr ⟨h1.2.1, h1.2.2.1, h1.2.2.2.1, hr.2.1⟩
theorem rep_step {σ0 σ1 : Mem} {nb n : Nat} {v : Int} {K : AV → Mem → Prop} (hs : σ0.next ≤ nb) (hb : nb < σ1.next) (hn : 1 ≤ n) (hn2 : n ≤ 2 ^ 20)
    (hK : ∀ w σ2, RdX σ2 w (List.replicate n v) → (∀ b ∈ blkOf w, σ1.next ≤ b ∧ b < σ2.next) → σ1.next ≤ σ2.next → (∀ b, b < σ1.next → b ≠ nb → σ2.get b = σ1.get b) → K w σ2) :
    newW σ1 nb (.rw [.int .i64 v]) fun σ' => callW PG n_slices_Repeat___int_int_ [.slice nb 0 1 (.ex 1), .int .i64 (n : Nat)] σ' K := by
  refine To.go ?_
  refine callW_of (slices_Repeat (σ := σ1.put nb (some (.rw [.int .i64 v]))) (v := v) gS' (by rw [Mem.next_put]; exact hb) hn hn2) ?_
  rintro w σ2 ⟨h1, h2, h3⟩
  refine hK w σ2 h1 h2 h3.next fun b h4 h5 => ?_
  rw [h3.get b (by rw [Mem.next_put]; exact h4), Mem.get_put_ne _ h5]
theorem deflate_Fixed {s : ByteArray} (hs : s.size ≤ 20000) {σ : Mem} :
    ACalls PG n_deflate_Fixed [.str s] σ fun v σ' => (∃ k, Done s k ∧ v = .str (text (fixedP (toks s k)).1 (fixedP (toks s k)).2)) ∧ σ.Same σ' := by
  refine ok_deflate_Fixed fun live => ?_
  unfold F_deflate_Fixed
  refine rep_step (σ0 := σ) (n := 144) (by omega) (by simp only [Mem.next_bump]; omega) (by decide) (by decide) fun v1 σ1 r1 b1 n1 f1 => ?_
  simp only [Mem.next_bump] at b1 n1 f1
  refine rep_step (σ0 := σ) (n := 112) (by omega) (by omega) (by decide) (by decide) fun v2 σ2 r2 b2 n2 f2 => ?_
  refine rep_step (σ0 := σ) (n := 24) (by omega) (by omega) (by decide) (by decide) fun v3 σ3 r3 b3 n3 f3 => ?_
  refine rep_step (σ0 := σ) (n := 8) (by omega) (by omega) (by decide) (by decide) fun v4 σ4 r4 b4 n4 f4 => ?_
  have k2 : ∀ b, σ.next + 12 ≤ b → b < σ1.next → σ2.get b = σ1.get b := fun b h h' => f2 b h' (by omega)
  have k3 : ∀ b, σ.next + 12 ≤ b → b < σ2.next → σ3.get b = σ2.get b := fun b h h' => f3 b h' (by omega)
  have k4 : ∀ b, σ.next + 12 ≤ b → b < σ3.next → σ4.get b = σ3.get b := fun b h h' => f4 b h' (by omega)
  have r1 := r1.keep (σ' := σ4) fun b hb => by have := b1 b hb; rw [k4 b (by omega) (by omega), k3 b (by omega) (by omega), k2 b (by omega) (by omega)]
  have r2 := r2.keep (σ' := σ4) fun b hb => by have := b2 b hb; rw [k4 b (by omega) (by omega), k3 b (by omega) (by omega)]
  have r3 := r3.keep (σ' := σ4) fun b hb => by have := b3 b hb; rw [k4 b (by omega) (by omega)]
  have s4 : σ.Same σ4 := ⟨by omega, fun b hb => by rw [f4 b (by omega) (by omega), f3 b (by omega) (by omega), f2 b (by omega) (by omega), f1 b (by omega) (by omega)]; rfl⟩
  refine cellOkW_one r1.c.one ?_
  refine cellOkW_one r2.c.one ?_
  refine cellOkW_one r3.c.one ?_
  refine cellOkW_one r4.c.one ?_
  rw [one_cells r1.c.one, one_cells r2.c.one, one_cells r3.c.one, one_cells r4.c.one]
  refine To.go ?_
  obtain ⟨σ5, h5⟩ : ∃ σ5, σ5 = σ4.put (σ.next + 9) (some (.rw [v1, v2, v3, v4])) := ⟨_, rfl⟩
  rw [show setAt (setAt (setAt (setAt [AV.nils, .nils, .nils, .nils] 0 [v1]) 1 [v2]) 2 [v3]) 3 [v4] = [v1, v2, v3, v4] from rfl, ← h5]
  have s5 : σ.Same σ5 := by rw [h5]; exact s4.put (by omega) _
  have n5 : σ5.next = σ4.next := by rw [h5]; rfl
  have g5 : σ5.get (σ.next + 9) = some (.rw [v1, v2, v3, v4]) := by rw [h5, gS']
  have k5 : ∀ b, σ.next + 12 ≤ b → σ5.get b = σ4.get b := fun b h => by rw [h5, Mem.get_put_ne _ (by omega)]
  clear h5
  refine callW_of (slices_Concat (σ := σ5) (k := 4) (Ls := [List.replicate 144 8, List.replicate 112 9, List.replicate 24 7, List.replicate 8 8]) g5 rfl rfl (by omega) (by decide) (fun i v M h1 h2 => ?_) (by rw [fixL_rep, fixL_len]; decide)) ?_
  · match i, h1, h2 with
    | 0, h1, h2 => injection h1 with h1; injection h2 with h2; subst h1 h2; exact ⟨(r1.keep fun b hb => k5 b (by have := b1 b hb; omega)).c.o, fun b hb => by have := b1 b hb; omega⟩
    | 1, h1, h2 => injection h1 with h1; injection h2 with h2; subst h1 h2; exact ⟨(r2.keep fun b hb => k5 b (by have := b2 b hb; omega)).c.o, fun b hb => by have := b2 b hb; omega⟩
    | 2, h1, h2 => injection h1 with h1; injection h2 with h2; subst h1 h2; exact ⟨(r3.keep fun b hb => k5 b (by have := b3 b hb; omega)).c.o, fun b hb => by have := b3 b hb; omega⟩
    | 3, h1, h2 => injection h1 with h1; injection h2 with h2; subst h1 h2; exact ⟨(r4.keep fun b hb => k5 b (by have := b4 b hb; omega)).c.o, fun b hb => by have := b4 b hb; omega⟩
    | i + 4, h1, h2 => simp at h1
  rintro w5 σ6 ⟨g6, s6⟩
  rw [fixL_rep] at g6
  have s06 := s5.trans s6
  refine callW_of (huff_Make (σ := σ6.bump 7) (L := fixL) (g6.o.keep fun _ _ => rfl) (by rw [fixL_len]; decide)) ?_
  rintro _ σ7 ⟨p, rfl, _, hp, s7⟩
  obtain ⟨_, t, rfl, tab⟩ := hp fixL_chk
  have tab := tab.b
  have s07 := s06.trans s7.ob
  have n7 := s7.next
  simp only [Mem.next_bump] at n7
  refine tupW_of rfl ?_
  refine tpI_of rfl ?_
  refine rep_step (σ0 := σ7) (n := 32) (Nat.le_refl _) (by simp only [Mem.next_bump]; omega) (by decide) (by decide) fun v8 σ8 r8 b8 n8 f8 => ?_
  simp only [Mem.next_bump] at b8 n8 f8
  have s8 : σ7.Same σ8 := ⟨by omega, fun b hb => f8 b (by omega) (by omega)⟩
  rw [fixD_rep] at r8
  refine callW_of (huff_Make (σ := σ8) (L := fixD) r8.c.o (by rw [fixD_len]; decide)) ?_
  rintro _ σ9 ⟨p, rfl, _, hp, s9⟩
  obtain ⟨_, t', rfl, tab'⟩ := hp fixD_chk
  have tab' := tab'.b
  have s09 := (s07.trans s8).trans s9
  have s79 := s8.trans s9
  refine tupW_of rfl ?_
  refine tpI_of rfl ?_
  refine callW_of (bits_New _) ?_
  rintro _ σ10 ⟨w, rfl, hw1, hw2, hwr, s10⟩
  replace s10 := s10.ob
  have n10 := s10.next
  have lone : Lone σ9 (σ10.bump 2) w (0, 0) := ⟨[w], hwr.keep fun _ _ => rfl, fun b hb => by simp only [List.mem_singleton] at hb; subst hb; simp only [Mem.next_bump] at hw1 ⊢; omega, s10.bump _⟩
  obtain ⟨o, hwo, _, st⟩ := lone.step
  refine callW_of (bits_Writer_Bits hwo (by decide) (by decide) (by decide)) ?_
  rintro _ σ11 ⟨rfl, h11⟩
  have lone := st _ (laP (0, 0) 3 3) h11
  refine callW_of (lz_Tokens s hs (σ11.bump 6)) ?_
  rintro a σ12 ⟨k, hk, own12, s12⟩
  have lone12 := lone.same s12.ob
  have hle := done_len hk
  obtain ⟨o12, hw12, hb12, s912⟩ := lone12
  have n912 := s912.next
  have n79 := s79.next
  have n9 := s9.next
  obtain ⟨o11, hw11, hb11, _⟩ := lone
  have tl : (toks s k).length = k := toks_len s k
  have own12' := own12.1
  rw [show tks s k = tkl (toks s k) from rfl, show OwnS 3 σ12 a (tkl (toks s k)) k ↔ OwnS 3 σ12 a (tkl (toks s k)) (toks s k).length from by rw [tl]] at own12'
  refine callW_of (deflate_symbols (σ := σ12) (o := o11) (p := laP (0, 0) 3 3) (lo := σ6.next + 7) (hi := σ7.next) (lo' := σ8.next) (hi' := σ9.next) fixL_lens fixD_lens (tab.keep fun b h1 h2 => by rw [s912.get b (by omega), s79.get b (by omega)]) (by omega) (fun b hb => .inr (by have := hb11 b hb; omega)) (tab'.keep fun b h1 h2 => s912.get b h2) (by omega) (fun b hb => .inr (by have := hb11 b hb; omega)) (hw11.keep fun b hb => s12.ob.get b (hb11 b hb).2) (by decide) own12' (fun b hb h => by have := (own12.2 b hb).1; have := (hb11 b h).2; simp only [Mem.next_bump] at *; omega) (toks_okT hk) (by rw [tl]; omega)) ?_
  rintro _ σ13 ⟨o13, w13, g13⟩
  have hfb := fold_two fixL_lens fixD_lens (l := toks s k) (laP (0, 0) 3 3) (toks_okT hk)
  have hfe := layS_two fixL_lens ((toks s k).foldl (layTok fixL fixD) (laP (0, 0) 3 3)) 256
  rw [tl, show (laP (0, 0) 3 3).2 = 3 from rfl] at hfb
  refine callW_of (bits_Writer_Text (σ := σ13.bump 3) (w13.keep fun _ _ => rfl) (by unfold layToks; omega)) ?_
  rintro _ σ14 ⟨rfl, s14⟩
  have sA : σ9.Same σ13 := (g13.same s912 fun b hb => (hb11 b hb).1).1
  exact ⟨⟨k, hk, rfl⟩, (s09.trans sA).trans s14.ob⟩
end Go.Vit
