/- The sum of bytes: a block is taken in. -/
import Derived.Test.YtomldponnggnfaaGreatVXI
set_option linter.unusedVariables false
set_option linter.unusedSimpArgs false
set_option linter.unusedSimpArgs false
set_option maxRecDepth 20000
set_option maxRecDepth 20000
namespace Go.Vit
open Go.Proofs
theorem rd8 {σ : Mem} {b N i x : Nat} {L : List Nat} {j : Int} {K : AV → Int → Prop} (hg : σ.get b = some (.rw (uc L))) (hN : L.length = N) (hx : L[i]? = some x) (hj : j = (i : Nat)) (hk : K (.ptr b i) (x : Nat)) : idxAW N 1 (.ptr b 0) j fun v => ldW σ v fun a => castI .u32 a fun y => K v y := by
  have hi : i < L.length := (List.getElem?_eq_some_iff.1 hx).1
  have e : ng L i = x := by unfold ng; rw [List.getD_eq_getElem?_getD, hx]; rfl
  exact rd32 hg hN (by omega) hj (by rw [e]; exact hk)
theorem rndS_len {v : List Nat} {k w : Nat} (h : v.length = 8) : (rndS v k w).length = 8 := by
  match v, h with
  | [a, b, c, d, e, f, g, h], _ => rfl
theorem rndS_32 {v : List Nat} {k w : Nat} (h : v.length = 8) (h32 : all32 v) : all32 (rndS v k w) := by
  match v, h with
  | [a, b, c, d, e, f, g, h], _ =>
    intro i
    match i with
    | 0 => exact ad_lt _ _
    | 1 => exact h32 0
    | 2 => exact h32 1
    | 3 => exact h32 2
    | 4 => exact ad_lt _ _
    | 5 => exact h32 4
    | 6 => exact h32 5
    | 7 => exact h32 6
    | i + 8 => show 0 < _; decide
theorem vTo_len {s K W : List Nat} (h : s.length = 8) : ∀ i, (vTo s K W i).length = 8
  | 0 => h
  | i + 1 => rndS_len (vTo_len h i)
theorem vTo_32 {s K W : List Nat} (h : s.length = 8) (h32 : all32 s) : ∀ i, all32 (vTo s K W i)
  | 0 => h32
  | i + 1 => rndS_32 (vTo_len h i) (vTo_32 h h32 i)
theorem sTo_len {s V : List Nat} (h : s.length = 8) : ∀ i, (sTo s V i).length = 8
  | 0 => h
  | i + 1 => by rw [sTo, List.length_set]; exact sTo_len h i
theorem sTo_32 {s V : List Nat} (h32 : all32 s) : ∀ i, all32 (sTo s V i)
  | 0 => h32
  | i + 1 => by rw [sTo]; exact all32_set (sTo_32 h32 i) (ad_lt _ _)
theorem sha_block {b : ByteArray} (hb : b.size = 64) {s K : List Nat} (hs : s.length = 8) (hs32 : all32 s) (hK : K.length = 64) (hK32 : all32 K) {sb : Nat} {σ : Mem} (hg : σ.get sb = some (.rw (uc s))) :
    ACalls PG n_sha_state_block [.ptr sb 0, .str b, .agg (uc K)] σ fun _ σ' => σ'.get sb = some (.rw (uc (blockS s b K))) ∧ Mem.Only [sb] σ σ' := by
  refine ok_sha_state_block fun live => ?_
  unfold F_sha_state_block
  have hsb := live.lt hg
  refine And.intro (uc_one _) ?_
  refine To.go ?_
  obtain ⟨kb, hkb⟩ : ∃ kb, σ.next = kb := ⟨_, rfl⟩
  rw [hkb]
  obtain ⟨σ0, e0⟩ : ∃ σ0, σ0 = (σ.bump 1).put kb (some (.rw (AV.agg (uc K)).cells)) := ⟨_, rfl⟩
  rw [← e0]
  have n0 : σ0.next = σ.next + 1 := by rw [e0]; rfl
  have s0 : σ.Same σ0 := by rw [e0]; exact Mem.Same.put ((Mem.Same.refl σ).bump _) (by omega) _
  have gk0 : σ0.get kb = some (.rw (uc K)) := by rw [e0, gS']; rfl
  clear e0
  refine callW_of (sha_schedule hb) ?_
  rintro _ σ2 ⟨rfl, s2⟩
  have n2 := s2.next
  simp only [Mem.next_bump] at n2
  have s02 : σ.Same σ2 := s0.trans s2.ob
  have gk2 : σ2.get kb = some (.rw (uc K)) := (s2.get kb (by simp only [Mem.next_bump]; omega)).trans gk0
  refine To.go ?_
  obtain ⟨wb, hwb⟩ : ∃ wb, σ0.next + 2 = wb := ⟨_, rfl⟩
  rw [hwb]
  obtain ⟨W, hW⟩ : ∃ W, wTo b 64 = W := ⟨_, rfl⟩
  have hWl : W.length = 64 := by rw [← hW]; exact wTo_len b 64
  have hW32 : all32 W := by rw [← hW]; exact wTo_32 b 64
  rw [hW]
  refine stn (l := uc (List.replicate 64 0)) (by rw [gS']; rfl) (by rw [uc_len]; simp) (by rw [uc_len]; exact hWl) (uc_one _) ?_
  rw [setAt_whole (by rw [uc_len, uc_len, hWl]; simp)]
  obtain ⟨σ4, e4⟩ : ∃ σ4, σ4 = (σ2.put wb (some (.rw (List.replicate 64 (.int .u32 0))))).put wb (some (.rw (uc W))) := ⟨_, rfl⟩
  rw [← e4]
  have n4 : σ4.next = σ2.next := by rw [e4]; rfl
  have s4 : σ.Same σ4 := by rw [e4]; exact Mem.Same.put (Mem.Same.put s02 (by omega) _) (by omega) _
  have gw4 : σ4.get wb = some (.rw (uc W)) := by rw [e4, gS']
  have gk4 : σ4.get kb = some (.rw (uc K)) := by rw [e4]; exact gN (by omega) (gN (by omega) gk2)
  clear e4
  refine To.go ?_
  have gs4 : σ4.get sb = some (.rw (uc s)) := (s4.get sb hsb).trans hg
  refine ldnq (σ := σ4.bump 5) gs4 rfl (by rw [uc_len]; omega) ?_
  rw [List.drop_zero, List.take_of_length_le (by rw [uc_len]; omega)]
  refine To.go ?_
  obtain ⟨vb, hvb⟩ : ∃ vb, σ4.next + 3 = vb := ⟨_, rfl⟩
  rw [hvb]
  refine stn (l := uc (List.replicate 8 0)) (by rw [gS']; rfl) (by rw [uc_len]; simp) (by rw [uc_len]; exact hs) (uc_one _) ?_
  rw [setAt_whole (by rw [uc_len, uc_len, hs]; simp)]
  obtain ⟨σ8, e8⟩ : ∃ σ8, σ8 = ((σ4.bump 5).put vb (some (.rw [.int .u32 0, .int .u32 0, .int .u32 0, .int .u32 0, .int .u32 0, .int .u32 0, .int .u32 0, .int .u32 0]))).put vb (some (.rw (uc s))) := ⟨_, rfl⟩
  have n8 : σ8.next = σ4.next + 5 := by rw [e8]; rfl
  have s8 : σ.Same σ8 := by rw [e8]; exact Mem.Same.put (Mem.Same.put (s4.bump _) (by omega) _) (by omega) _
  have gv8 : σ8.get vb = some (.rw (uc s)) := by rw [e8, gS']
  have gw8 : σ8.get wb = some (.rw (uc W)) := by rw [e8]; exact gN (by omega) (gN (by omega) (gB gw4))
  have gk8 : σ8.get kb = some (.rw (uc K)) := by rw [e8]; exact gN (by omega) (gN (by omega) (gB gk4))
  rw [← e8]
  clear e8
  refine loop1 (fun (i : Nat) (z : Int) σ' => z = i ∧ i ≤ 64 ∧ σ'.get vb = some (.rw (uc (vTo s K W i))) ∧ σ'.get wb = some (.rw (uc W)) ∧ σ'.get kb = some (.rw (uc K)) ∧ σ.Same σ' ∧ σ8.next ≤ σ'.next) (fun i => 64 - i) 0 ⟨rfl, by omega, gv8, gw8, gk8, s8.bump _, by rw [Mem.next_bump]; omega⟩ ?_
  rintro i _ σ5 ⟨rfl, hi, gv, gw, gk, s5, n5⟩
  unfold F_sha_state_block_l1
  rw [hvb, hkb, hwb]
  have hVl := vTo_len (K := K) (W := W) hs i
  have hV32 := vTo_32 (K := K) (W := W) hs hs32 i
  refine ifD (fun hlt => ?_) (fun hge => ?_)
  · have hi64 : i < 64 := by omega
    have hnext : vTo s K W (i + 1) = rndS (vTo s K W i) (ng K i) (ng W i) := rfl
    obtain ⟨V, hV⟩ : ∃ V, vTo s K W i = V := ⟨_, rfl⟩
    rw [hV] at gv hVl hV32 hnext
    obtain ⟨a, x1, c, d, e, f, g, h, rfl⟩ : ∃ a x1 c d e f g h, V = [a, x1, c, d, e, f, g, h] := by
      match V, hVl with
      | [a, x1, c, d, e, f, g, h], _ => exact ⟨a, x1, c, d, e, f, g, h, rfl⟩
    have ha : a < 4294967296 := hV32 0
    have hx1 : x1 < 4294967296 := hV32 1
    have hc : c < 4294967296 := hV32 2
    have hd : d < 4294967296 := hV32 3
    have he : e < 4294967296 := hV32 4
    have hf : f < 4294967296 := hV32 5
    have hg' : g < 4294967296 := hV32 6
    have hh : h < 4294967296 := hV32 7
    have hk32 := hK32 i
    have hw32 := hW32 i
    refine rd8 (σ := σ5.bump 9) (i := 0) gv rfl rfl rfl ?_
    refine rd8 (σ := σ5.bump 9) (i := 4) gv rfl rfl rfl ?_
    refine rd8 (σ := σ5.bump 39) (i := 7) gv rfl rfl rfl ?_
    refine rd8 (σ := σ5.bump 39) (i := 5) gv rfl rfl rfl ?_
    dsimp only [letW]
    refine rd8 (σ := σ5.bump 39) (i := 6) gv rfl rfl rfl ?_
    refine rd32 (σ := σ5.bump 39) (i := i) gk hK hi64 rfl ?_
    refine rd32 (σ := σ5.bump 39) (i := i) gw hWl hi64 rfl ?_
    rw [A32 he hf, N32 hg' he, X32 (alt he) (xlt hg' (alt hg'))]
    refine callW_of (sha_turn (n := 6) he (by decide)) ?_
    rintro _ _ ⟨rfl, rfl⟩
    refine ⟨rfl, rfl, rfl, rfl, rfl, ?_⟩
    refine To.go ?_
    refine callW_of (sha_turn (n := 11) he (by decide)) ?_
    rintro _ _ ⟨rfl, rfl⟩
    refine ⟨rfl, rfl, rfl, rfl, rfl, ?_⟩
    refine To.go ?_
    refine callW_of (sha_turn (n := 25) he (by decide)) ?_
    rintro _ _ ⟨rfl, rfl⟩
    refine ⟨rfl, rfl, rfl, rfl, rfl, ?_⟩
    refine To.go ?_
    rw [X32 (trn_lt he) (trn_lt he), X32 (xlt (trn_lt he) (trn_lt he)) (trn_lt he)]
    dsimp only [wrW]
    rw [wrA, wrA, wrA, wrA]
    obtain ⟨X, hX⟩ : ∃ X, ad (ad (ad (ad h (trn e 6 ^^^ trn e 11 ^^^ trn e 25)) (e &&& f ^^^ (g ^^^ g &&& e))) (ng K i)) (ng W i) = X := ⟨_, rfl⟩
    rw [hX]
    refine rd8 (i := 1) gv rfl rfl rfl ?_
    refine rd8 (i := 2) gv rfl rfl rfl ?_
    refine rd8 (i := 1) gv rfl rfl rfl ?_
    refine rd8 (i := 2) gv rfl rfl rfl ?_
    rw [A32 ha hx1, A32 ha hc, A32 hx1 hc, X32 (alt ha) (alt ha), X32 (xlt (alt ha) (alt ha)) (alt hx1)]
    refine callW_of (sha_turn (n := 2) ha (by decide)) ?_
    rintro _ _ ⟨rfl, rfl⟩
    refine ⟨rfl, rfl, rfl, rfl, ?_⟩
    refine To.go ?_
    refine callW_of (sha_turn (n := 13) ha (by decide)) ?_
    rintro _ _ ⟨rfl, rfl⟩
    refine ⟨rfl, rfl, rfl, rfl, ?_⟩
    refine To.go ?_
    refine callW_of (sha_turn (n := 22) ha (by decide)) ?_
    rintro _ _ ⟨rfl, rfl⟩
    refine ⟨rfl, rfl, rfl, rfl, ?_⟩
    refine To.go ?_
    rw [X32 (trn_lt ha) (trn_lt ha), X32 (xlt (trn_lt ha) (trn_lt ha)) (trn_lt ha), wrA]
    obtain ⟨Y, hY⟩ : ∃ Y, ad (trn a 2 ^^^ trn a 13 ^^^ trn a 22) (a &&& x1 ^^^ a &&& c ^^^ x1 &&& c) = Y := ⟨_, rfl⟩
    rw [hY]
    refine And.intro (by decide) ?_
    refine And.intro (by decide) ?_
    refine opt (v := uc [a, x1, c, d, e, f, g]) ?_ ⟨fun h => absurd h (by decide), fun _ => ?_⟩
    · refine (Mem.cells_of (l := uc [a, x1, c, d, e, f, g, h]) ?_ 0 7).trans rfl
      exact gv
    refine opt (v := .rw (uc [a, x1, c, d, e, f, g, h])) (by exact gv) ?_
    refine And.intro ⟨by show 0 + 1 * 1 + 7 ≤ 8; decide, rfl⟩ ?_
    have hset : setAt (uc [a, x1, c, d, e, f, g, h]) (0 + Int.toNat 1 * 1) (uc [a, x1, c, d, e, f, g]) = uc [a, a, x1, c, d, e, f, g] := rfl
    show _
    rw [wrA]
    refine wr32 (i := 0) (L := [a, a, x1, c, d, e, f, g]) gS' rfl (by decide) rfl ?_
    refine rd8 (i := 4) (L := [ad X Y, a, x1, c, d, e, f, g]) gS' rfl rfl rfl ?_
    rw [wrA]
    refine wr32 (i := 4) (L := [ad X Y, a, x1, c, d, e, f, g]) gS' rfl (by decide) rfl ?_
    refine iW_of2 (by omega) ?_
    have hfin : rndS [a, x1, c, d, e, f, g, h] (ng K i) (ng W i) = [ad X Y, a, x1, c, ad d X, e, f, g] := by
      rw [← hX, ← hY]; rfl
    refine again ⟨i + 1, ⟨by omega, by omega, ?_, ?_, ?_, ?_, ?_⟩, by omega⟩
    · rw [hnext, hfin]
      exact gB gS'
    · exact gB (gN (by omega) (gN (by omega) (gN (by omega) gw)))
    · exact gB (gN (by omega) (gN (by omega) (gN (by omega) gk)))
    · exact Mem.Same.bump (Mem.Same.put (Mem.Same.bump (Mem.Same.put (Mem.Same.bump (Mem.Same.put (((((((((s5.bump 39).bump 10).bump 10).bump 10).bump 25).bump 10).bump 10).bump 10).bump 3) (by omega) _) 5) (by omega) _) 6) (by omega) _) 2
    · simp only [Mem.next_bump, Mem.next_put]; omega
  · obtain rfl : i = 64 := by omega
    obtain ⟨V, hV⟩ : ∃ V, vTo s K W 64 = V := ⟨_, rfl⟩
    rw [hV] at gv hVl hV32
    have gs5 : σ5.get sb = some (.rw (uc s)) := (s5.get sb hsb).trans hg
    have hbs : blockS s b K = sTo s V 8 := by unfold blockS; rw [hW, hV]
    rw [hbs]
    refine loop1 (fun (i : Nat) (z : Int) σ' => z = i ∧ i ≤ 8 ∧ σ'.get sb = some (.rw (uc (sTo s V i))) ∧ σ'.get vb = some (.rw (uc V)) ∧ Mem.Only [sb] σ σ') (fun i => 8 - i) 0 ⟨rfl, by omega, gs5, gv, ⟨by rw [Mem.next_bump]; exact Nat.le_trans s5.next (Nat.le_add_right _ _), fun x hx _ => s5.get x hx⟩⟩ ?_
    rintro j _ σ6 ⟨rfl, hj, gs6, gv6, o6⟩
    unfold F_sha_state_block_l2
    rw [hvb]
    have hsl := sTo_len (V := V) hs j
    refine ifD (fun hlt => ?_) (fun hge => ?_)
    · have hj8 : j < 8 := by omega
      refine To.go ?_
      refine rd32 (σ := σ6.bump 15) (i := j) gs6 hsl hj8 rfl ?_
      refine rd32 (σ := σ6.bump 15) (i := j) gv6 hVl hj8 rfl ?_
      dsimp only [wrW]
      rw [wrA]
      refine To.go ?_
      refine wr32 (i := j) (L := sTo s V j) gs6 hsl hj8 rfl ?_
      refine iW_of2 (by omega) ?_
      refine again ⟨j + 1, ⟨by omega, by omega, gB gS', gB (gN (by omega) (gB gv6)), (Mem.Only.put (o6.bump _) (by simp) _).bump _⟩, by omega⟩
    · obtain rfl : j = 8 := by omega
      exact ⟨gB gs6, o6.bump _⟩
end Go.Vit
