/- The sum of bytes: the whole. -/
import Derived.Test.YtomldponnggnfaaGreatVXJ
import Derived.Test.YtomldponnggnfaaGreatVm3
set_option linter.unusedVariables false
set_option linter.unusedSimpArgs false
set_option linter.unusedSimpArgs false
set_option maxRecDepth 20000
set_option maxRecDepth 20000
namespace Go.Vit
open Go.Proofs
def Fil8 (σ0 σ : Mem) (v : AV) (l : List UInt8) : Prop :=
  Own 1 σ0 σ v (bl l) l.length ∨ ∃ b, v = .slice b 0 l.length (.ex l.length) ∧ σ.get b = some (.rw (bl l)) ∧ σ0.next ≤ b ∧ b < σ.next
theorem bl_len8 (l : List UInt8) : (bl l).length = l.length := by unfold bl; simp
theorem bl_app (a b : List UInt8) : bl (a ++ b) = bl a ++ bl b := by unfold bl; rw [List.map_append]
theorem Fil8.same {σ0 σ σ' : Mem} {v : AV} {l : List UInt8} (h : Fil8 σ0 σ v l) (s : σ.Same σ') : Fil8 σ0 σ' v l := by
  rcases h with h | ⟨b, rfl, hg, h1, h2⟩
  · exact .inl (h.same s)
  · exact .inr ⟨b, rfl, (s.get b h2).trans hg, h1, Nat.lt_of_lt_of_le h2 s.next⟩
theorem Fil8.len {σ0 σ : Mem} {v : AV} {l : List UInt8} (h : Fil8 σ0 σ v l) {K : Int → Prop} (hk : K (l.length : Nat)) : slenW v K := by
  rcases h with h | ⟨b, rfl, _⟩
  · exact h.1.len hk
  · exact hk
theorem Fil8.bstr {σ0 σ : Mem} {v : AV} {l : List UInt8} (h : Fil8 σ0 σ v l) {K : ByteArray → Prop} (hk : K ⟨l.toArray⟩) : bstrW σ v K := by
  rcases h with h | ⟨b, rfl, hg, _⟩
  · exact h.1.bstr hk
  · refine opt (v := l) ?_ hk
    rw [Mem.cells_of hg, if_pos (by rw [bl_len8]; omega), List.drop_zero, List.take_of_length_le (by rw [bl_len8]; omega), Option.bind_some, toBytes_bl]
theorem Fil8.push {id nb j : Nat} {σ0 σ1 σ2 : Mem} {v : AV} {l c : List UInt8} {c' : Cap} {K : AV → Mem → Prop} (h : Fil8 σ0 σ1 v l) (s : σ0.Same σ1) (hσ2 : σ2 = (σ1.bump j).put nb (some (.rw (bl c)))) (hnb : σ1.next ≤ nb) (hid : nb < id) (hlt : id < σ1.next + j) (hc : c ≠ [])
    (hr : l.length + c.length ≤ 2 ^ 40) (hk : ∀ v' σ', Fil8 σ0 σ' v' (l ++ c) → σ0.Same σ' → σ1.next ≤ σ'.next → K v' σ') : apW 1 1 id σ2 v (.slice nb 0 c.length c') K := by
  have hcl : c.length ≠ 0 := by simpa using hc
  rcases h with h | ⟨b, rfl, hg, h1, h2⟩
  · refine Own.push h s hσ2 hnb hid hcl (by rw [bl_len8, Nat.mul_one]) (bl_one _) (bl_one _) ⟨by omega, by omega⟩ ?_ (by rw [hσ2, Mem.next_put, Mem.next_bump]; exact hlt)
    intro v' σ' own s' n' o' _
    refine hk v' σ' (.inl ?_) s' o'.next
    rw [← bl_app] at own
    rw [List.length_append]; exact own
  · subst hσ2
    have hgb : ((σ1.bump j).put nb (some (.rw (bl c)))).get b = some (.rw (bl l)) := gN (by omega) hg
    refine src_new gS' (by rw [bl_len8, Nat.mul_one]) rfl _ ⟨bl_one _, fun h0 => absurd h0 hcl, fun _ => ⟨fun hle => by omega, fun _ => ⟨⟨by omega, by omega⟩, ?_⟩⟩⟩
    refine opt (v := bl l) ?_ ⟨bl_one _, ?_⟩
    · rw [Mem.cells_of hgb, if_pos (by rw [bl_len8]; omega), List.drop_zero, List.take_of_length_le (by rw [bl_len8]; omega)]
    · rw [← bl_app, ← List.length_append]
      refine hk _ _ (.inl ⟨.inr ⟨id, rfl, gS', by rw [bl_len8, Nat.mul_one]⟩, fun x hx => ?_⟩) ?_ ?_
      · simp only [blkOf, List.mem_singleton] at hx
        subst hx
        rw [Mem.next_put, Mem.next_put, Mem.next_bump]
        exact ⟨by have := s.next; omega, hlt⟩
      · have := s.next
        exact Mem.Same.put (Mem.Same.put (s.bump _) (by omega) _) (by omega) _
      · rw [Mem.next_put, Mem.next_put, Mem.next_bump]; omega
theorem byt_bl (n : Nat) : bl [byt n] = [.int .u8 ((n % 256 : Nat) : Int)] := by
  unfold bl byt
  rw [List.map_cons, List.map_nil, UInt8.toNat_ofNat']
theorem wr8 (n : Nat) : IntKind.u8.wrap ((n : Nat) : Int) = ((n % 256 : Nat) : Int) := by rw [IntKind.wrap_u8]; omega
def be8 (n : Nat) (j : Nat) : List UInt8 := (List.range j).map fun i => byt (8 * n / 2 ^ (56 - 8 * i))
theorem be8_succ (n j : Nat) : be8 n (j + 1) = be8 n j ++ [byt (8 * n / 2 ^ (56 - 8 * j))] := by unfold be8; rw [List.range_succ, List.map_append]; rfl
theorem be8_len (n j : Nat) : (be8 n j).length = j := by unfold be8; simp
def zer (n : Nat) : Nat := (119 - n % 64) % 64
theorem pad_eq (n : Nat) : padS n = (128 :: List.replicate (zer n) 0) ++ be8 n 8 := rfl
theorem pad_len (n : Nat) : (padS n).length = 9 + zer n := by rw [pad_eq, List.length_append, be8_len]; simp; omega
theorem sha_begin {σ : Mem} : ACalls PG n_sha_begin [] σ fun v σ' => v = .agg (uc ivS) ∧ σ.Same σ' := by
  refine ok_sha_begin fun _ => ?_
  unfold F_sha_begin
  refine To.go ?_
  refine stn (vs := uc ivS) (by rw [gB gS']) (by decide) rfl rfl ?_
  refine ldnq gS' rfl (by decide) ?_
  exact ⟨rfl, Mem.Same.put (Mem.Same.bump (Mem.Same.put ((Mem.Same.refl σ).bump _) (Nat.le_refl _) _) _) (Nat.le_refl _) _⟩
theorem sha_constants {σ : Mem} : ACalls PG n_sha_constants [] σ fun v σ' => v = .agg (uc kS) ∧ σ.Same σ' := by
  refine ok_sha_constants fun _ => ?_
  unfold F_sha_constants
  refine To.go ?_
  refine stn (vs := uc kS) (by rw [gB gS']) (by decide +kernel) (by decide +kernel) (by decide +kernel) ?_
  rw [setAt_whole (by decide +kernel)]
  refine ldnq gS' rfl (by decide +kernel) ?_
  rw [List.drop_zero, List.take_of_length_le (by decide +kernel)]
  exact ⟨rfl, Mem.Same.put (Mem.Same.bump (Mem.Same.put ((Mem.Same.refl σ).bump _) (Nat.le_refl _) _) _) (Nat.le_refl _) _⟩
theorem kS_32 : all32 kS := by
  intro i
  by_cases h : i < 64
  · have := (by decide +kernel : ∀ i : Fin 64, ng kS i.val < 4294967296) ⟨i, h⟩
    exact this
  · unfold ng
    rw [List.getD_eq_getElem?_getD, List.getElem?_eq_none (by show 64 ≤ i; omega)]
    show 0 < _; decide
theorem ivS_32 : all32 ivS := by
  intro i
  by_cases h : i < 8
  · have := (by decide +kernel : ∀ i : Fin 8, ng ivS i.val < 4294967296) ⟨i, h⟩
    exact this
  · unfold ng
    rw [List.getD_eq_getElem?_getD, List.getElem?_eq_none (by show 8 ≤ i; omega)]
    show 0 < _; decide
theorem blockS_len {s K : List Nat} {b : ByteArray} (h : s.length = 8) : (blockS s b K).length = 8 := sTo_len h _
theorem blockS_32 {s K : List Nat} {b : ByteArray} (h : all32 s) : all32 (blockS s b K) := sTo_32 h _
theorem stTo_ok (a : ByteArray) : ∀ i, (stTo a i).length = 8 ∧ all32 (stTo a i)
  | 0 => ⟨rfl, ivS_32⟩
  | i + 1 => ⟨blockS_len (stTo_ok a i).1, blockS_32 (stTo_ok a i).2⟩
theorem out_take {L : List Nat} {j : Nat} (h : j < L.length) : outSha (L.take (j + 1)) = outSha (L.take j) ++ [byt (ng L j / 16777216), byt (ng L j / 65536), byt (ng L j / 256), byt (ng L j)] := by
  rw [List.take_succ_eq_append_getElem h]
  unfold outSha
  rw [List.flatMap_append]
  have : L[j] = ng L j := by unfold ng; rw [List.getD_eq_getElem?_getD, List.getElem?_eq_getElem h]; rfl
  rw [this]; simp
theorem sha_Sum (s : ByteArray) (hs : s.size ≤ 2 ^ 36) (σ : Mem) : ACalls PG n_sha_Sum [.str s] σ fun v σ' => v = .str (shaS s) ∧ σ.Same σ' := by
  refine ok_sha_Sum fun live => ?_
  unfold F_sha_Sum
  obtain ⟨n, hn⟩ : ∃ n, s.size = n := ⟨_, rfl⟩
  rw [hn] at hs ⊢
  dsimp only [wrW]
  have w64 : ∀ x : Nat, x < 2 ^ 64 → IntKind.u64.wrap (x : Int) = (x : Int) := fun x hx => by rw [IntKind.wrap_u64]; omega
  rw [w64 n (by omega), show (n : Int) * 8 = ((8 * n : Nat) : Int) from by omega, w64 (8 * n) (by omega)]
  refine To.go ?_
  obtain ⟨z, hz⟩ : ∃ z, zer n = z := ⟨_, rfl⟩
  have hz64 : z < 64 := by rw [← hz]; unfold zer; omega
  have hzm : (n + 1 + z) % 64 = 56 := by rw [← hz]; unfold zer; omega
  have hzu : ∀ i, i < z → (n + 1 + i) % 64 ≠ 56 := fun i hi => by rw [← hz] at hi; unfold zer at hi; omega
  refine loop1 (g1 := .v) (fun (i : Nat) (v : AV) σ' => i ≤ z ∧ Fil8 σ σ' v (128 :: List.replicate i 0) ∧ σ.Same σ') (fun i => z - i) 0 ⟨by omega, .inr ⟨σ.next + 6, rfl, gS', by omega, by rw [Mem.next_put, Mem.next_bump]; omega⟩, Mem.Same.put ((Mem.Same.refl σ).bump _) (by omega) _⟩ ?_
  rintro i v σ1 ⟨hi, hf, s1⟩
  unfold F_sha_Sum_l1
  rw [hn]
  have hfl : (128 :: List.replicate i (0 : UInt8)).length = i + 1 := by simp
  refine hf.len ?_
  rw [hfl]
  refine iW_of2 (by omega) ?_
  refine To.go ?_
  refine And.intro ⟨by omega, by omega⟩ ?_
  rw [show ((n : Nat) : Int) + ((i + 1 : Nat) : Int) = ((n + 1 + i : Nat) : Int) from by omega, show ((n + 1 + i : Nat) : Int) % 64 = (((n + 1 + i) % 64 : Nat) : Int) from by omega]
  refine ifD (fun hne => ?_) (fun heq => ?_)
  · have hiz : i < z := by
      rcases Nat.lt_or_ge i z with h | h
      · exact h
      · exact absurd hzm (by rw [show z = i from by omega]; omega)
    refine To.go ?_
    refine Fil8.push (c := [0]) (j := 11) hf s1 rfl (by omega) (by omega) (by omega) (by simp) (by rw [hfl]; simp; omega) ?_
    intro v' σ2 hf2 s2 _
    refine again ⟨i + 1, ⟨by omega, ?_, s2⟩, by omega⟩
    have e : (128 :: List.replicate i (0 : UInt8)) ++ [0] = 128 :: List.replicate (i + 1) 0 := by rw [List.cons_append, List.replicate_succ']
    rw [← e]; exact hf2
  · obtain rfl : i = z := by
      rcases Nat.lt_or_ge i z with h | h
      · exact absurd (hzu i h) (by omega)
      · omega
    refine loop2 (g1 := .v) (g2 := tI) (fun (j : Nat) (v : AV) (y : Int) σ' => j ≤ 8 ∧ y = 56 - 8 * (j : Int) ∧ Fil8 σ σ' v ((128 :: List.replicate i 0) ++ be8 n j) ∧ σ.Same σ') (fun j => 8 - j) 0 ⟨by omega, rfl, by rw [show be8 n 0 = [] from rfl, List.append_nil]; exact hf.same ((Mem.Same.refl σ1).bump _), s1.bump _⟩ ?_
    clear hf s1
    rintro j v σ1 σ1' ⟨hj, rfl, hf, s1⟩
    unfold F_sha_Sum_l2
    have hfl2 : ((128 :: List.replicate i (0 : UInt8)) ++ be8 n j).length = i + 1 + j := by rw [List.length_append, hfl, be8_len]
    refine ifD (fun hle => ?_) (fun hgt => ?_)
    · have hj8 : j < 8 := by omega
      refine And.intro (by omega) ?_
      have hsh : shAmt (56 - 8 * (j : Int)) IntKind.u64.bits = 56 - 8 * j := by
        unfold shAmt
        rw [show (56 - 8 * (j : Int)).toNat = 56 - 8 * j from by omega, if_pos (show 56 - 8 * j ≤ IntKind.u64.bits from (by show 56 - 8 * j ≤ 64; omega))]
      rw [hsh]
      have hdv : ((8 * n : Nat) : Int) / pow2 (56 - 8 * j) = ((8 * n / 2 ^ (56 - 8 * j) : Nat) : Int) := by unfold pow2; rfl
      rw [hdv]
      dsimp only [wrW]
      rw [wr8]
      refine To.go ?_
      refine Fil8.push (c := [byt (8 * n / 2 ^ (56 - 8 * j))]) (j := 10) hf s1 (by rw [byt_bl]) (by omega) (by omega) (by omega) (by simp) (by rw [hfl2]; simp; omega) ?_
      intro v' σ2 hf2 s2 _
      refine iW_of2 (by omega) ?_
      refine again ⟨j + 1, ⟨by omega, by omega, ?_, s2.bump _⟩, by omega⟩
      rw [be8_succ, ← List.append_assoc]
      exact hf2.same ((Mem.Same.refl σ2).bump _)
    · obtain rfl : j = 8 := by omega
      have hpad : (128 :: List.replicate i (0 : UInt8)) ++ be8 n 8 = padS n := by rw [pad_eq, hz]
      rw [hpad] at hf hfl2
      refine callW_of sha_begin ?_
      rintro _ σ2 ⟨rfl, s2⟩
      refine callW_of sha_constants ?_
      rintro _ σ3 ⟨rfl, s3⟩
      have n2 := s2.next
      have n3 := s3.next
      rw [Mem.next_bump] at n2
      have s13 := s2.ob.trans s3
      refine To.go ?_
      refine To.go ?_
      obtain ⟨sb, hsb⟩ : ∃ sb, σ1'.next + 4 = sb := ⟨_, rfl⟩
      have hkb : σ1'.next + 5 = sb + 1 := by omega
      rw [hsb, hkb]
      refine stn (l := uc (List.replicate 8 0)) (gN (by omega) (by rw [gS']; rfl)) (by rw [uc_len]; simp) rfl (uc_one _) ?_
      rw [setAt_whole (by rw [uc_len, uc_len]; rfl)]
      refine stn (l := uc (List.replicate 64 0)) (gN (by omega) (by rw [gS']; rfl)) (by rw [uc_len]; simp) rfl (uc_one _) ?_
      rw [setAt_whole (by rw [uc_len, uc_len]; decide +kernel)]
      obtain ⟨σ4, e4⟩ : ∃ σ4, σ4 = ((((σ3.put sb (some (.rw [.int .u32 0, .int .u32 0, .int .u32 0, .int .u32 0, .int .u32 0, .int .u32 0, .int .u32 0, .int .u32 0]))).put (sb + 1) (some (.rw (List.replicate 64 (.int .u32 0))))).put sb (some (.rw (uc ivS)))).put (sb + 1) (some (.rw (uc kS)))) := ⟨_, rfl⟩
      rw [← e4]
      have n4 : σ4.next = σ3.next := by rw [e4]; rfl
      have s14 : σ1'.Same σ4 := by
        rw [e4]
        exact Mem.Same.put (Mem.Same.put (Mem.Same.put (Mem.Same.put s13 (by omega) _) (by omega) _) (by omega) _) (by omega) _
      have gk4 : σ4.get (sb + 1) = some (.rw (uc kS)) := by rw [e4, gS']
      have gs4 : σ4.get sb = some (.rw (uc ivS)) := by rw [e4]; exact gN (by omega) gS'
      clear e4
      refine (hf.same (s14.bump 5)).bstr ?_
      refine To.go ?_
      have hps : (⟨(padS n).toArray⟩ : ByteArray).size = 9 + i := by
        show (padS n).toArray.size = _
        rw [List.size_toArray, pad_len, hz]
      refine And.intro (by rw [hn, hps]; omega) ?_
      have hall : s ++ (⟨(padS n).toArray⟩ : ByteArray) = allS s := by unfold allS; rw [hn]
      rw [hall]
      have hasz : (allS s).size = n + 9 + i := by rw [← hall, ByteArray.size_append, hn, hps]; omega
      obtain ⟨nb, hnb⟩ : ∃ nb, (n + 72) / 64 = nb := ⟨_, rfl⟩
      have hnb64 : n + 9 + i = 64 * nb := by omega
      have s04 : σ.Same σ4 := s1.trans s14
      obtain ⟨A, hA⟩ : ∃ A, allS s = A := ⟨_, rfl⟩
      have hsum : shaS s = ⟨(outSha (stTo A nb)).toArray⟩ := by unfold shaS; rw [hn, hnb, hA]
      rw [hsum]
      rw [hA] at hasz ⊢
      have o1 := s1.next
      refine loop1 (fun (k : Nat) (y : Int) σ' => y = 64 * (k : Int) ∧ k ≤ nb ∧ σ'.get sb = some (.rw (uc (stTo A k))) ∧ σ'.get (sb + 1) = some (.rw (uc kS)) ∧ σ.Same σ' ∧ σ4.next ≤ σ'.next) (fun k => nb - k) 0 ⟨rfl, by omega, gs4, gk4, s04.bump _, by rw [Mem.next_bump]; omega⟩ ?_
      rintro k _ σ5 ⟨rfl, hk, gs5, gk5, s5, n5⟩
      unfold F_sha_Sum_l3
      rw [hsb, hkb]
      obtain ⟨hSl, hS32⟩ := stTo_ok A k
      refine ifD (fun hlt => ?_) (fun hge => ?_)
      · have hk' : k < nb := by omega
        refine iW_of2 (by omega) ?_
        refine And.intro (by omega) ?_
        rw [show (64 * (k : Int)).toNat = 64 * k from by omega, show (64 * (k : Int) + 64).toNat = 64 * k + 64 from by omega]
        refine ldnq (σ := σ5.bump 11) gk5 rfl (by rw [uc_len]; decide +kernel) ?_
        rw [List.drop_zero, List.take_of_length_le (by rw [uc_len]; decide +kernel)]
        refine callW_of (sha_block (σ := σ5.bump 11) (s := stTo A k) (K := kS) (by rw [ByteArray.size_extract]; omega) hSl hS32 rfl kS_32 gs5) ?_
        rintro _ σ6 ⟨g6, o6⟩
        have n6 := o6.next
        rw [Mem.next_bump] at n6
        refine iW_of2 (by omega) ?_
        refine again ⟨k + 1, ⟨by omega, by omega, gB g6, ?_, ?_, ?_⟩, by omega⟩
        · rw [Mem.get_bump, o6.get (sb + 1) (by rw [Mem.next_bump]; omega) (by simp)]; exact gk5
        · refine Mem.Same.bump ⟨by have := s5.next; omega, fun x hx => ?_⟩ _
          rw [o6.get x (by rw [Mem.next_bump]; have := s5.next; omega) (by simp; omega)]
          exact s5.get x hx
        · rw [Mem.next_bump]; omega
      · obtain rfl : k = nb := by omega
        refine ldnq (σ := σ5.bump 7) gs5 rfl (by rw [uc_len]; omega) ?_
        rw [List.drop_zero, List.take_of_length_le (by rw [uc_len]; omega)]
        obtain ⟨S, hS⟩ : ∃ S, stTo A k = S := ⟨_, rfl⟩
        rw [hS] at hSl hS32 ⊢
        refine loop2 (g1 := .v) (g2 := tI) (fun (j : Nat) (v : AV) (y : Int) σ' => y = j ∧ j ≤ 8 ∧ Fil8 σ σ' v (outSha (S.take j)) ∧ (outSha (S.take j)).length = 4 * j ∧ σ.Same σ') (fun j => 8 - j) 0 ⟨rfl, by omega, .inl (Own.nil 1 σ _), rfl, s5.bump _⟩ ?_
        rintro j v _ σ6 ⟨rfl, hj, hf6, hl6, s6⟩
        unfold F_sha_Sum_l4
        refine ifD (fun hlt => ?_) (fun hge => ?_)
        · have hj8 : j < 8 := by omega
          refine And.intro (by omega) ?_
          refine opt (v := .int .u32 (ng S j : Nat)) ?_ ?_
          · rw [Int.toNat_natCast, Nat.mul_one]
            exact uc_get (by omega)
          have hx := hS32 j
          obtain ⟨x, hxe⟩ : ∃ x, ng S j = x := ⟨_, rfl⟩
          have hot := out_take (L := S) (j := j) (by omega)
          rw [hxe] at hx hot ⊢
          refine To.go ?_
          dsimp only [letW, wrW]
          rw [show (x : Int) / 16777216 = ((x / 16777216 : Nat) : Int) from by omega, show (x : Int) / 65536 = ((x / 65536 : Nat) : Int) from by omega, show (x : Int) / 256 = ((x / 256 : Nat) : Int) from by omega, wr8, wr8, wr8, wr8]
          refine To.go ?_
          refine Fil8.push (c := [byt (x / 16777216), byt (x / 65536), byt (x / 256), byt x]) (j := 18) hf6 s6 ?_ (by omega) (by omega) (by omega) (by simp) (by rw [hl6]; simp; omega) ?_
          · unfold bl byt
            simp only [List.map_cons, List.map_nil, UInt8.toNat_ofNat', Nat.reducePow]
          intro v' σ7 hf7 s7 _
          refine iW_of2 (by omega) ?_
          refine again ⟨j + 1, ⟨by omega, by omega, ?_, ?_, s7.bump _⟩, by omega⟩
          · rw [hot]; exact hf7.same ((Mem.Same.refl σ7).bump _)
          · rw [hot, List.length_append, hl6]; simp; omega
        · obtain rfl : j = 8 := by omega
          rw [List.take_of_length_le (by omega)] at hf6
          refine (hf6.same ((Mem.Same.refl σ6).bump 4)).bstr ?_
          exact ⟨rfl, s6.bump _⟩
end Go.Vit
