/- The sum of bytes: a block. -/
import Derived.Test.YtomldponnggnfaaGreatVXH
import Derived.Test.YtomldponnggnfaaGreatVm3
set_option linter.unusedVariables false
set_option linter.unusedSimpArgs false
set_option linter.unusedSimpArgs false
set_option maxRecDepth 20000
set_option maxRecDepth 20000
namespace Go.Vit
open Go.Proofs
theorem iW_of2 {n : Int} {K : Int → Prop} (h : -9223372036854775808 ≤ n ∧ n ≤ 9223372036854775807) (hk : K n) : iW n K := by rw [iW_eq h]; exact hk
theorem b32 {op : BinOp} {x y z : Nat} (hx : x < 4294967296) (hy : y < 4294967296) (hz : z < 4294967296) (h : bitsOp op .u32 (x : Int) (y : Int) = IntKind.u32.wrap ((z : Nat) : Int)) : bitsOp op .u32 (x : Int) (y : Int) = (z : Int) := by
  rw [h, IntKind.wrap_u32]; omega
theorem ofI {x : Nat} (hx : x < 4294967296) : (BitVec.ofInt IntKind.u32.bits (x : Int)).toNat = x := by
  rw [BitVec.toNat_ofInt]
  show ((x : Int) % ((2 ^ 32 : Nat) : Int)).toNat = x
  omega
theorem X32 {x y : Nat} (hx : x < 4294967296) (hy : y < 4294967296) : bitsOp .xor .u32 (x : Int) (y : Int) = ((x ^^^ y : Nat) : Int) :=
  b32 hx hy (Nat.xor_lt_two_pow (n := 32) hx hy) (by show IntKind.u32.wrap ((BitVec.ofInt IntKind.u32.bits (x : Int) ^^^ BitVec.ofInt IntKind.u32.bits (y : Int)).toNat : Int) = _; rw [BitVec.toNat_xor, ofI hx, ofI hy])
theorem A32 {x y : Nat} (hx : x < 4294967296) (hy : y < 4294967296) : bitsOp .and .u32 (x : Int) (y : Int) = ((x &&& y : Nat) : Int) :=
  b32 hx hy (Nat.lt_of_le_of_lt Nat.and_le_left hx) (by show IntKind.u32.wrap ((BitVec.ofInt IntKind.u32.bits (x : Int) &&& BitVec.ofInt IntKind.u32.bits (y : Int)).toNat : Int) = _; rw [BitVec.toNat_and, ofI hx, ofI hy])
theorem O32 {x y : Nat} (hx : x < 4294967296) (hy : y < 4294967296) : bitsOp .or .u32 (x : Int) (y : Int) = ((x ||| y : Nat) : Int) :=
  b32 hx hy (Nat.or_lt_two_pow (n := 32) hx hy) (by show IntKind.u32.wrap ((BitVec.ofInt IntKind.u32.bits (x : Int) ||| BitVec.ofInt IntKind.u32.bits (y : Int)).toNat : Int) = _; rw [BitVec.toNat_or, ofI hx, ofI hy])
theorem bv_andNot (a b : BitVec 32) : a &&& ~~~ b = a ^^^ (a &&& b) := by
  ext i hi
  simp only [BitVec.getElem_and, BitVec.getElem_not, BitVec.getElem_xor]
  cases a[i] <;> cases b[i] <;> rfl
theorem N32 {x y : Nat} (hx : x < 4294967296) (hy : y < 4294967296) : bitsOp .andNot .u32 (x : Int) (y : Int) = ((x ^^^ (x &&& y) : Nat) : Int) :=
  b32 hx hy (Nat.xor_lt_two_pow (n := 32) hx (Nat.lt_of_le_of_lt Nat.and_le_left hx)) (by
    show IntKind.u32.wrap ((BitVec.ofInt IntKind.u32.bits (x : Int) &&& ~~~ BitVec.ofInt IntKind.u32.bits (y : Int)).toNat : Int) = _
    rw [show (BitVec.ofInt IntKind.u32.bits (x : Int) &&& ~~~ BitVec.ofInt IntKind.u32.bits (y : Int)) = BitVec.ofInt IntKind.u32.bits (x : Int) ^^^ (BitVec.ofInt IntKind.u32.bits (x : Int) &&& BitVec.ofInt IntKind.u32.bits (y : Int)) from bv_andNot _ _, BitVec.toNat_xor, BitVec.toNat_and, ofI hx, ofI hy])
theorem ad_lt (x y : Nat) : ad x y < 4294967296 := Nat.mod_lt _ (by decide)
theorem wrA (x y : Nat) : IntKind.u32.wrap ((x : Int) + (y : Int)) = (ad x y : Nat) := by rw [IntKind.wrap_u32]; unfold ad; omega
theorem trn_lt {x n : Nat} (hx : x < 4294967296) : trn x n < 4294967296 :=
  Nat.or_lt_two_pow (n := 32) (Nat.lt_of_le_of_lt (Nat.div_le_self _ _) hx) (Nat.mod_lt _ (by decide))
theorem xlt {x y : Nat} (hx : x < 4294967296) (hy : y < 4294967296) : x ^^^ y < 4294967296 := Nat.xor_lt_two_pow (n := 32) hx hy
theorem alt {x y : Nat} (hx : x < 4294967296) : x &&& y < 4294967296 := Nat.lt_of_le_of_lt Nat.and_le_left hx
theorem olt {x y : Nat} (hx : x < 4294967296) (hy : y < 4294967296) : x ||| y < 4294967296 := Nat.or_lt_two_pow (n := 32) hx hy
theorem sha_turn {x n : Nat} (hx : x < 4294967296) (hn : n ≤ 32) {σ : Mem} : ACalls PG n_sha_turn [.int .u32 (x : Nat), .int .i64 (n : Nat)] σ fun v σ' => v = .int .u32 (trn x n : Nat) ∧ σ' = σ.bump 10 := by
  refine ok_sha_turn fun _ => ?_
  unfold F_sha_turn
  have h1 : shAmt (n : Int) 32 = n := by unfold shAmt; rw [Int.toNat_natCast, if_pos hn]
  refine And.intro (by omega) ?_
  show iW _ _
  rw [show shAmt (n : Int) IntKind.u32.bits = n from h1]
  refine iW_of2 (by omega) ?_
  rw [show (32 : Int) - (n : Nat) = ((32 - n : Nat) : Int) from by omega]
  refine And.intro (by omega) ?_
  have h2 : shAmt ((32 - n : Nat) : Int) IntKind.u32.bits = 32 - n := by unfold shAmt; rw [Int.toNat_natCast, if_pos (show 32 - n ≤ IntKind.u32.bits from (by show 32 - n ≤ 32; omega))]
  rw [h2]
  dsimp only [letW]
  have e1 : (x : Int) / pow2 n = ((x / 2 ^ n : Nat) : Int) := by unfold pow2; rfl
  have e2 : IntKind.u32.wrap ((x : Int) * pow2 (32 - n)) = ((x * 2 ^ (32 - n) % 4294967296 : Nat) : Int) := by
    rw [IntKind.wrap_u32]; unfold pow2
    rw [← Int.natCast_mul]; rfl
  rw [e1, e2, O32 (Nat.lt_of_le_of_lt (Nat.div_le_self _ _) hx) (Nat.mod_lt _ (by decide))]
  exact ⟨rfl, rfl⟩
def uc (L : List Nat) : List AV := L.map fun n => .int .u32 (n : Nat)
theorem uc_len (L : List Nat) : (uc L).length = L.length := by unfold uc; simp
theorem uc_get {L : List Nat} {i : Nat} (h : i < L.length) : (uc L)[i]? = some (.int .u32 (ng L i : Nat)) := by
  unfold uc ng
  rw [List.getElem?_map, List.getElem?_eq_getElem h, List.getD_eq_getElem?_getD, List.getElem?_eq_getElem h]; rfl
theorem uc_set (L : List Nat) (i n : Nat) : (uc L).set i (.int .u32 (n : Nat)) = uc (L.set i n) := by unfold uc; rw [List.map_set]
theorem uc_one (L : List Nat) : (uc L).all AV.one = true := by
  rw [List.all_eq_true]; intro a ha
  unfold uc at ha
  obtain ⟨n, _, rfl⟩ := List.mem_map.1 ha
  rfl
def all32 (L : List Nat) : Prop := ∀ i, ng L i < 4294967296
theorem all32_set {L : List Nat} {i n : Nat} (h : all32 L) (hn : n < 4294967296) : all32 (L.set i n) := by
  intro j
  unfold ng
  rw [List.getD_eq_getElem?_getD, List.getElem?_set]
  split
  · split
    · exact hn
    · show 0 < _; decide
  · have := h j; unfold ng at this; rwa [List.getD_eq_getElem?_getD] at this
theorem rd32 {σ : Mem} {b N i : Nat} {L : List Nat} {j : Int} {K : AV → Int → Prop} (hg : σ.get b = some (.rw (uc L))) (hN : L.length = N) (hi : i < N) (hj : j = (i : Nat)) (hk : K (.ptr b i) (ng L i : Nat)) : idxAW N 1 (.ptr b 0) j fun v => ldW σ v fun a => castI .u32 a fun x => K v x := by
  subst hj
  refine And.intro (show (0 : Int) ≤ (i : Nat) ∧ ((i : Nat) : Int) < (N : Nat) by omega) ?_
  rw [Int.toNat_natCast, Nat.zero_add, Nat.mul_one]
  exact ldrw (σ := σ) (K := fun a => castI .u32 a _) hg (uc_get (by omega)) hk
theorem wr32 {σ : Mem} {b N i n : Nat} {L : List Nat} {j : Int} {K : Mem → Prop} (hg : σ.get b = some (.rw (uc L))) (hN : L.length = N) (hi : i < N) (hj : j = (i : Nat)) (hk : K (σ.put b (some (.rw (uc (L.set i n)))))) : idxAW N 1 (.ptr b 0) j fun v => stW 1 σ v (.int .u32 (n : Nat)) K := by
  subst hj
  refine And.intro (show (0 : Int) ≤ (i : Nat) ∧ ((i : Nat) : Int) < (N : Nat) by omega) ?_
  rw [Int.toNat_natCast, Nat.zero_add, Nat.mul_one]
  refine st1 hg (by rw [uc_len]; omega) rfl ?_
  rw [uc_set]; exact hk
theorem wTo_len (b : ByteArray) : ∀ t, (wTo b t).length = 64
  | 0 => by simp [wTo]
  | t + 1 => by rw [wTo, List.length_set, wTo_len b t]
theorem layS_lt (b : ByteArray) (t : Nat) : layS b t < 4294967296 := by
  unfold layS
  have h0 := byteAt_lt b (4 * t); have h1 := byteAt_lt b (4 * t + 1); have h2 := byteAt_lt b (4 * t + 2); have h3 := byteAt_lt b (4 * t + 3)
  exact olt (olt (olt (by omega) (by omega)) (by omega)) (by omega)
theorem wTo_32 (b : ByteArray) : ∀ t, all32 (wTo b t)
  | 0 => by
    intro i
    unfold ng wTo
    rw [List.getD_eq_getElem?_getD, List.getElem?_replicate]
    split <;> (show 0 < _; decide)
  | t + 1 => by
    rw [wTo]
    refine all32_set (wTo_32 b t) ?_
    split
    · exact layS_lt b t
    · exact ad_lt _ _
theorem sha_schedule {b : ByteArray} (hb : b.size = 64) {σ : Mem} : ACalls PG n_sha_schedule [.str b] σ fun v σ' => v = .agg (uc (wTo b 64)) ∧ σ.Same σ' := by
  refine ok_sha_schedule fun live => ?_
  unfold F_sha_schedule
  refine To.go ?_
  refine To.go ?_
  obtain ⟨rb, hrb⟩ : ∃ rb, σ.next = rb := ⟨_, rfl⟩
  obtain ⟨wb, hwb⟩ : ∃ wb, ((σ.bump 1).put σ.next (some (.rw (List.replicate 64 (.int .u32 0))))).next = wb := ⟨_, rfl⟩
  have hwr : wb = rb + 1 := by rw [← hwb, ← hrb]; rfl
  obtain ⟨σ1, e1⟩ : ∃ σ1, σ1 = (((σ.bump 1).put σ.next (some (.rw (List.replicate 64 (.int .u32 0))))).bump 1).put ((σ.bump 1).put σ.next (some (.rw (List.replicate 64 (.int .u32 0))))).next (some (.rw (List.replicate 64 (.int .u32 0)))) := ⟨_, rfl⟩
  rw [← e1]
  have n1 : σ1.next = σ.next + 2 := by rw [e1]; rfl
  have s1 : σ.Same σ1 := by rw [e1]; exact Mem.Same.put (Mem.Same.bump (Mem.Same.put ((Mem.Same.refl σ).bump _) (by omega) _) _) (by rw [Mem.next_put, Mem.next_bump]; omega) _
  have gw : σ1.get wb = some (.rw (uc (wTo b 0))) := by rw [e1, hwb, gS']; rfl
  have gr : σ1.get rb = some (.rw (uc (List.replicate 64 0))) := by rw [e1, hwb, hrb]; exact gN (by omega) (gB gS')
  clear e1
  refine loop1 (fun (i : Nat) (z : Int) σ' => z = i ∧ i ≤ 16 ∧ σ'.get wb = some (.rw (uc (wTo b i))) ∧ σ'.get rb = some (.rw (uc (List.replicate 64 0))) ∧ σ.Same σ' ∧ σ.next + 2 ≤ σ'.next) (fun i => 16 - i) 0 ⟨rfl, by omega, gw, gr, s1.bump _, by rw [Mem.next_bump]; omega⟩ ?_
  rintro i _ σ2 ⟨rfl, hi, gw2, gr2, s2, n2⟩
  unfold F_sha_schedule_l1
  rw [hwb]
  have hwl := wTo_len b i
  refine ifD (fun hlt => ?_) (fun hge => ?_)
  · have hi16 : i < 16 := by omega
    have q0 := byteAt_lt b (4 * i); have q1 := byteAt_lt b (4 * i + 1); have q2 := byteAt_lt b (4 * i + 2); have q3 := byteAt_lt b (4 * i + 3)
    refine iW_of2 (by omega) ?_
    refine And.intro (by omega) ?_
    rw [show (4 * (i : Int)).toNat = 4 * i from by omega]
    dsimp only [letW, wrW]
    refine iW_of2 (by omega) ?_
    refine iW_of2 (by omega) ?_
    refine And.intro (by omega) ?_
    rw [show (4 * (i : Int) + 1).toNat = 4 * i + 1 from by omega]
    refine iW_of2 (by omega) ?_
    refine iW_of2 (by omega) ?_
    refine And.intro (by omega) ?_
    rw [show (4 * (i : Int) + 2).toNat = 4 * i + 2 from by omega]
    refine iW_of2 (by omega) ?_
    refine iW_of2 (by omega) ?_
    refine And.intro (by omega) ?_
    rw [show (4 * (i : Int) + 3).toNat = 4 * i + 3 from by omega]
    dsimp only [letW, wrW]
    have w8 : ∀ x : Nat, x < 256 → IntKind.u32.wrap (x : Int) = (x : Int) := fun x hx => by rw [IntKind.wrap_u32]; omega
    have wm : ∀ x m : Nat, x < 256 → m ≤ 16777216 → IntKind.u32.wrap ((x : Int) * (m : Nat)) = ((x * m : Nat) : Int) := fun x m hx hm => by
      have := Nat.mul_le_mul (Nat.le_of_lt_succ (show x < 255 + 1 from hx)) hm
      rw [IntKind.wrap_u32, ← Int.natCast_mul]; omega
    rw [w8 _ q0, w8 _ q1, w8 _ q2, w8 _ q3, show (16777216 : Int) = ((16777216 : Nat) : Int) from rfl, show (65536 : Int) = ((65536 : Nat) : Int) from rfl, show (256 : Int) = ((256 : Nat) : Int) from rfl, wm _ _ q0 (by decide), wm _ _ q1 (by decide), wm _ _ q2 (by decide)]
    rw [O32 (by omega) (by omega), O32 (olt (by omega) (by omega)) (by omega), O32 (olt (olt (by omega) (by omega)) (by omega)) (by omega)]
    refine wr32 (i := i) (L := wTo b i) gw2 hwl (by omega) rfl ?_
    refine iW_of2 (by omega) ?_
    refine again ⟨i + 1, ⟨by omega, by omega, ?_, ?_, ?_, ?_⟩, by omega⟩
    · refine gB ?_
      rw [gS', wTo, if_pos hi16]; rfl
    · exact gB (gN (by omega) (gB gr2))
    · exact (Mem.Same.put (s2.bump _) (by omega) _).bump _
    · simp only [Mem.next_bump, Mem.next_put]; omega
  · obtain rfl : i = 16 := by omega
    refine loop1 (fun (i : Nat) (z : Int) σ' => z = i ∧ 16 ≤ i ∧ i ≤ 64 ∧ σ'.get wb = some (.rw (uc (wTo b i))) ∧ σ'.get rb = some (.rw (uc (List.replicate 64 0))) ∧ σ.Same σ' ∧ σ.next + 2 ≤ σ'.next) (fun i => 64 - i) 16 ⟨rfl, by omega, by omega, gw2, gr2, s2.bump _, by rw [Mem.next_bump]; omega⟩ ?_
    clear gw2 gr2 s2 n2 hwl
    rintro i _ σ2 ⟨rfl, hi0, hi, gw2, gr2, s2, n2⟩
    unfold F_sha_schedule_l2
    rw [hwb, hrb]
    have hwl := wTo_len b i
    have h32 := wTo_32 b i
    refine ifD (fun hlt => ?_) (fun hge => ?_)
    · have hi64 : i < 64 := by omega
      obtain ⟨L, hL⟩ : ∃ L, wTo b i = L := ⟨_, rfl⟩
      rw [hL] at gw2 hwl h32
      have x1 := h32 (i - 15); have x2 := h32 (i - 2); have x3 := h32 (i - 16); have x4 := h32 (i - 7)
      refine iW_of2 (by omega) ?_
      refine rd32 (σ := σ2.bump 12) (i := i - 15) gw2 hwl (by omega) (by omega) ?_
      refine iW_of2 (by omega) ?_
      refine rd32 (σ := σ2.bump 12) (i := i - 2) gw2 hwl (by omega) (by omega) ?_
      refine iW_of2 (by omega) ?_
      refine rd32 (σ := σ2.bump 42) (i := i - 16) gw2 hwl (by omega) (by omega) ?_
      dsimp only [letW]
      refine iW_of2 (by omega) ?_
      refine rd32 (σ := σ2.bump 42) (i := i - 7) gw2 hwl (by omega) (by omega) ?_
      refine callW_of (sha_turn (n := 7) x1 (by decide)) ?_
      rintro _ _ ⟨rfl, rfl⟩
      refine And.intro rfl ?_
      refine And.intro rfl ?_
      refine To.go ?_
      refine callW_of (sha_turn (n := 18) x1 (by decide)) ?_
      rintro _ _ ⟨rfl, rfl⟩
      refine And.intro rfl ?_
      refine And.intro rfl ?_
      refine To.go ?_
      refine callW_of (sha_turn (n := 17) x2 (by decide)) ?_
      rintro _ _ ⟨rfl, rfl⟩
      refine And.intro rfl ?_
      refine And.intro rfl ?_
      refine To.go ?_
      refine callW_of (sha_turn (n := 19) x2 (by decide)) ?_
      rintro _ _ ⟨rfl, rfl⟩
      refine And.intro rfl ?_
      refine And.intro rfl ?_
      refine To.go ?_
      have d1 : ((ng L (i - 15) : Nat) : Int) / 8 = ((ng L (i - 15) / 8 : Nat) : Int) := by omega
      have d2 : ((ng L (i - 2) : Nat) : Int) / 1024 = ((ng L (i - 2) / 1024 : Nat) : Int) := by omega
      have d3 : ng L (i - 15) / 8 < 4294967296 := by omega
      have d4 : ng L (i - 2) / 1024 < 4294967296 := by omega
      rw [d1, d2, X32 (trn_lt x1) (trn_lt x1), X32 (xlt (trn_lt x1) (trn_lt x1)) d3, X32 (trn_lt x2) (trn_lt x2), X32 (xlt (trn_lt x2) (trn_lt x2)) d4]
      dsimp only [wrW]
      rw [wrA, wrA, wrA]
      refine wr32 (i := i) (L := L) gw2 hwl (by omega) rfl ?_
      refine iW_of2 (by omega) ?_
      refine again ⟨i + 1, ⟨by omega, by omega, by omega, ?_, ?_, ?_, ?_⟩, by omega⟩
      · refine gB ?_
        rw [gS', wTo, if_neg (by omega), hL]; rfl
      · exact gB (gN (by omega) (gB gr2))
      · exact (Mem.Same.put (((((s2.bump 42).bump 10).bump 10).bump 10).bump 10) (by omega) _).bump _
      · simp only [Mem.next_bump, Mem.next_put]; omega
    · obtain rfl : i = 64 := by omega
      have hlw : (uc (wTo b 64)).length = 64 := by rw [uc_len]; exact hwl
      refine ldnq (σ := σ2.bump 4) gw2 rfl (by omega) ?_
      rw [List.drop_zero, List.take_of_length_le (by omega)]
      refine stn (l := uc (List.replicate 64 0)) gr2 (by rw [uc_len]; simp) hlw (uc_one _) ?_
      have hset : setAt (uc (List.replicate 64 0)) 0 (uc (wTo b 64)) = uc (wTo b 64) := setAt_whole (by rw [uc_len, hlw]; simp)
      rw [hset]
      refine ldnq gS' rfl (by omega) ?_
      rw [List.drop_zero, List.take_of_length_le (by omega)]
      exact ⟨rfl, Mem.Same.put (s2.bump _) (by omega) _⟩
end Go.Vit
