/- Lists put together, and repeated. -/
import Derived.Test.YtcliekhikcaoiaaV5X2
set_option linter.unusedVariables false
set_option linter.unusedSimpArgs false
set_option linter.unusedSimpArgs false
set_option maxRecDepth 20000
namespace Go.Vit
open Go.Proofs
theorem Gr.push {σ0 σ : Mem} {v x : AV} {L M : List Int} {id : Nat} {K : AV → Mem → Prop} (h : Gr σ0 σ v L) (hx : RdO 1 σ x (ic M) M.length) (hid : σ0.next ≤ id) (hlt : id < σ.next) (hne : id ∉ blkOf v) (hr : L.length + M.length ≤ 2 ^ 40)
    (hk : ∀ v' σ', Gr σ0 σ' v' (L ++ M) → σ'.next = σ.next → (∀ b, b ∉ blkOf v → b ≠ id → σ'.get b = σ.get b) → (∀ b ∈ blkOf v', b ∈ blkOf v ∨ b = id) → K v' σ') : apW 1 8 id σ v x K := by
  unfold apW
  refine src_rdO hx _ ⟨ic_one _, ?_⟩
  rcases h with ⟨rfl, rfl⟩ | ⟨b, cells, rfl, hg, h3, h4, h5, h6, h7⟩
  · refine ⟨fun e => ?_, fun e => ⟨⟨by simp only [List.length_nil] at hr; omega, by simp only [List.length_nil] at hr; omega⟩, ?_⟩⟩
    · refine hk _ _ (.inl ⟨rfl, ?_⟩) rfl (fun _ _ _ => rfl) (fun b hb => .inl hb)
      rw [List.nil_append]; exact List.length_eq_zero_iff.1 e
    · refine hk _ _ (.inr ⟨id, ic M, by simp, gS', ic_one _, by rw [ic_len]; simp, by rw [List.nil_append, ← ic_len M, List.take_length], hid, by rw [Mem.next_put]; exact hlt⟩) rfl (fun b _ hb => Mem.get_put_ne _ hb _) (fun b hb => ?_)
      simp [blkOf] at hb; exact .inr hb
  · simp only [blkOf, List.mem_singleton] at hne
    refine ⟨fun e => ?_, fun e => ?_⟩
    · have : M = [] := List.length_eq_zero_iff.1 e
      subst this
      refine hk _ _ (.inr ⟨b, cells, by rw [List.append_nil], hg, h3, by rw [List.append_nil]; exact h4, by rw [List.append_nil]; exact h5, h6, h7⟩) rfl (fun _ _ _ => rfl) (fun b hb => .inl hb)
    · refine opt hg ?_
      refine ⟨⟨rfl, rfl, by omega⟩, ⟨by omega, by omega⟩, h3, ?_⟩
      rw [Nat.mul_one, h5, ← ic_append]
      refine hk _ _ (.inr ⟨id, _, by rw [List.length_append], gS', ic_one _, by rw [ic_len]; omega, by rw [← ic_len (L ++ M), List.take_length], hid, by simp only [Mem.next_put]; exact hlt⟩) rfl (fun b' hb' hb => ?_) (fun b hb => ?_)
      · simp [blkOf] at hb'
        rw [Mem.get_put_ne _ hb, Mem.get_put_ne _ hb']
      · simp [blkOf] at hb; exact .inr hb
theorem flat_succ {Ls : List (List Int)} {i : Nat} (h : i < Ls.length) : (Ls.take (i + 1)).flatten = (Ls.take i).flatten ++ Ls[i] := by
  rw [List.take_succ_eq_append_getElem h, List.flatten_append]; simp
theorem flat_len_le (Ls : List (List Int)) (i : Nat) : (Ls.take i).flatten.length ≤ Ls.flatten.length := by
  have : Ls.flatten = (Ls.take i).flatten ++ (Ls.drop i).flatten := by rw [← List.flatten_append, List.take_append_drop]
  rw [this, List.length_append]; omega
theorem slices_Concat {ab k : Nat} {c : Cap} {vs : List AV} {Ls : List (List Int)} {σ : Mem} (hg : σ.get ab = some (.rw vs)) (hvl : vs.length = k) (hL : Ls.length = k) (hab : ab < σ.next) (hk30 : k ≤ 2 ^ 30)
    (hv : ∀ (i : Nat) (v : AV) (M : List Int), vs[i]? = some v → Ls[i]? = some M → RdO 1 σ v (ic M) M.length ∧ ∀ b ∈ blkOf v, b < σ.next) (ht : Ls.flatten.length ≤ 2 ^ 30) :
    ACalls PG n_slices_Concat___int_int_ [.slice ab 0 k c] σ fun w σ' => Gr σ σ' w Ls.flatten ∧ σ.Same σ' := by
  refine ok_slices_Concat___int_int_ fun live => ?_
  unfold F_slices_Concat___int_int_
  refine To.go ?_
  have rd : ∀ (σ' : Mem) (i : Nat) (K : AV → Prop), σ.Same σ' → (hi : i < k) → K (vs[i]'(by omega)) → ∀ n, idxW 1 (.slice ab 0 k c) (i : Nat) fun p => ldW (σ'.bump n) p K := by
    intro σ' i K s hi hK n
    refine And.intro (show (0 : Int) ≤ (i : Nat) ∧ ((i : Nat) : Int) < (k : Nat) by omega) ?_
    rw [Int.toNat_natCast, Nat.zero_add, Nat.mul_one]
    exact ldrw (σ := σ'.bump n) ((s.get ab hab).trans hg) (List.getElem?_eq_getElem (by omega)) hK
  have hvi : ∀ i (hi : i < k), RdO 1 σ (vs[i]'(by omega)) (ic (Ls[i]'(by omega))) (Ls[i]'(by omega)).length ∧ ∀ b ∈ blkOf (vs[i]'(by omega)), b < σ.next := fun i hi => hv i _ _ (List.getElem?_eq_getElem (by omega)) (List.getElem?_eq_getElem (by omega))
  refine loop2 (fun (i : Nat) (x y : Int) σ' => x = ((Ls.take i).flatten.length : Nat) ∧ y = i ∧ i ≤ k ∧ σ.Same σ') (fun i => k - i) 0 ⟨rfl, rfl, by omega, (Mem.Same.refl σ).bump _⟩ ?_
  rintro i _ _ σ1 ⟨rfl, rfl, hi, s1⟩
  unfold F_slices_Concat___int_int__l1
  have hle := flat_len_le Ls i
  refine ifD (fun hlt => ?_) (fun hge => ?_)
  · have hik : i < k := by omega
    refine rd σ1 i _ s1 hik ?_ 4
    obtain ⟨r1, r2⟩ := hvi i hik
    refine (r1.keep (σ' := σ1) fun b hb => s1.get b (r2 b hb)).len ?_
    have hle' := flat_len_le Ls (i + 1)
    have e : (Ls.take (i + 1)).flatten.length = (Ls.take i).flatten.length + (Ls[i]'(by omega)).length := by rw [flat_succ (by omega), List.length_append]
    refine iW_of (by omega) ?_
    refine joinI ?_
    refine ifF (by omega) ?_
    unfold F_slices_Concat___int_int__j1
    refine iW_of (by omega) ?_
    exact again ⟨i + 1, ⟨by omega, by omega, by omega, (s1.bump _).bump _⟩, by omega⟩
  · obtain rfl : i = k := by omega
    have e : Ls.take i = Ls := List.take_of_length_le (by omega)
    rw [e]
    refine callW_of (slices_Grow (σ := σ1.bump 4) (by omega)) ?_
    rintro w σ2 ⟨gr, s2⟩
    have s02 := (s1.bump 4).trans s2
    refine To.go ?_
    have gr0 : Gr σ σ2 w [] := by
      rcases gr with h | ⟨b, cells, h1, h2, h3, h4, h5, h6, h7⟩
      · exact .inl h
      · exact .inr ⟨b, cells, h1, h2, h3, h4, h5, by have := s1.next; simp only [Mem.next_bump] at h6; omega, h7⟩
    refine loop2 (fun (j : Nat) (v : AV) (y : Int) σ' => y = j ∧ j ≤ i ∧ σ.Same σ' ∧ Gr σ σ' v (Ls.take j).flatten) (fun j => i - j) 0 ⟨rfl, by omega, s02.bump _, by rw [List.take_zero]; exact gr0.same ((Mem.Same.refl σ2).bump _)⟩ ?_
    rintro j v _ σ3 ⟨rfl, hj, s3, g3⟩
    unfold F_slices_Concat___int_int__l2
    refine ifD (fun hlt => ?_) (fun hge => ?_)
    · have hji : j < i := by omega
      refine rd σ3 j _ s3 hji ?_ 4
      obtain ⟨r1, r2⟩ := hvi j hji
      have hle1 := flat_len_le Ls j
      have hle' := flat_len_le Ls (j + 1)
      have e : (Ls.take (j + 1)).flatten = (Ls.take j).flatten ++ (Ls[j]'(by omega)) := flat_succ (by omega)
      have e2 := congrArg List.length e
      rw [List.length_append] at e2
      have n3 := s3.next
      refine Gr.push (σ := σ3.bump 8) (g3.same ((Mem.Same.refl σ3).bump 8)) (r1.keep fun b hb => s3.get b (r2 b hb)) (by omega) (by simp only [Mem.next_bump]; omega) (fun h => by have := (g3.fresh.1 _ h).2; omega) (by omega) ?_
      intro v' σ4 g4 hn4 hg4 hb4
      refine iW_of (by omega) ?_
      simp only [Mem.next_bump] at hn4
      refine again ⟨j + 1, ⟨by omega, by omega, ⟨by simp only [Mem.next_bump]; omega, fun b hb => ?_⟩, ?_⟩, by omega⟩
      · refine (hg4 b (fun h => by have := (g3.fresh.1 _ h).1; omega) (by omega)).trans (s3.get b hb)
      · rw [e]; exact g4.same ((Mem.Same.refl σ4).bump _)
    · obtain rfl : j = i := by omega
      rw [e] at g3
      exact ⟨g3.same ((Mem.Same.refl σ3).bump _), s3.bump _⟩
/-! ### Repeated -/
theorem bits_low {x : Nat} (hx : x < 2 ^ 32) : bitsOp .and .u64 (x : Int) 4294967295 = (x : Int) := by
  show IntKind.u64.wrap (((BitVec.ofInt 64 (x : Int) &&& BitVec.ofInt 64 4294967295).toNat : Nat) : Int) = _
  rw [show BitVec.ofInt 64 (x : Int) = BitVec.ofNat 64 x from by simp, show BitVec.ofInt 64 4294967295 = BitVec.ofNat 64 (2 ^ 32 - 1) from rfl, BitVec.toNat_and, BitVec.toNat_ofNat, BitVec.toNat_ofNat, Nat.mod_eq_of_lt (by omega), Nat.mod_eq_of_lt (by omega), Nat.and_two_pow_sub_one_eq_mod, Nat.mod_eq_of_lt hx, IntKind.wrap_u64]
  omega
theorem math_Mul {n : Nat} (hn : n < 2 ^ 32) (σ : Mem) : ACalls PG n_math_bits_Mul [.int .u64 1, .int .u64 (n : Nat)] σ fun w σ' => w = .tup [.int .u64 0, .int .u64 (n : Nat)] ∧ σ.Same σ' := by
  refine ok_math_bits_Mul fun live => ?_
  unfold F_math_bits_Mul
  refine callW_of (Q := fun w σ' => w = .tup [.int .u64 0, .int .u64 (n : Nat)] ∧ (σ.bump 10).Same σ') (ok_math_bits_Mul64 fun _ => ?_) ?_
  · unfold F_math_bits_Mul64
    rw [bits_low hn, show bitsOp .and .u64 1 4294967295 = 1 from bits_low (x := 1) (by decide)]
    have e0 : bitsOp .and .u64 0 4294967295 = 0 := bits_low (x := 0) (by decide)
    have z : ((n : Nat) : Int) / 4294967296 = 0 := by omega
    have w1 : (1 * ((n : Nat) : Int)) % 18446744073709551616 = n := by omega
    rw [z]
    refine To.go ?_
    refine To.go ?_
    refine To.go ?_
    refine To.go ?_
    refine To.go ?_
    rw [w1, show (1 : Int) / 4294967296 = 0 from rfl, z, Int.zero_mul]
    show wrW .u64 0 _
    refine To.go ?_
    refine To.go ?_
    refine To.go ?_
    show letW (bitsOp .and .u64 0 4294967295) _
    rw [e0]
    refine To.go ?_
    refine To.go ?_
    show wrW .u64 0 _
    refine To.go ?_
    show wrW .u64 0 _
    refine To.go ?_
    show wrW .u64 0 _
    refine To.go ?_
    show wrW .u64 0 _
    refine To.go ?_
    refine To.go ?_
    show wrW .u64 0 _
    refine To.go ?_
    rw [show wrW .u64 (1 * ((n : Nat) : Int)) = wrW .u64 (n : Nat) from by rw [Int.one_mul]]
    refine To.go ?_
    rw [show ((n : Nat) : Int) % 18446744073709551616 = n from by omega]
    exact ⟨rfl, (Mem.Same.refl _).bump _⟩
  · rintro _ σ1 ⟨rfl, s1⟩
    refine tupW_of (x := .int .u64 0) rfl ?_
    refine To.go ?_
    refine tupW_of (x := .int .u64 (n : Nat)) rfl ?_
    refine To.go ?_
    exact ⟨rfl, s1.ob.bump _⟩
end Go.Vit
