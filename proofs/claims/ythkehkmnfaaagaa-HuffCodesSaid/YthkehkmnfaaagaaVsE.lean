/- Words that many proofs use: bytes as cells, remainders, memory that stays. -/
import Derived.Test.YthkehkmnfaaagaaVsD
import Derived.Test.YthkehkmnfaaagaaVitZ
set_option linter.unusedVariables false
set_option linter.unusedSimpArgs false
namespace Go.Vit
theorem reach_eq : reachBytes = 140737488351232 := by decide
theorem wf_u8 {n : Int} (h : (Lit.int .u8 n).wf = true) : 0 ≤ n ∧ n ≤ 255 := by simpa [Lit.wf, IntKind.min, IntKind.max, IntKind.signed, IntKind.bits] using h
/-- A remainder of any number. -/
theorem rem_any {a b : Int} {K : Int → Prop} (h : 0 < b) (hk : ∀ r, -b < r → r < b → (0 ≤ a → r = a % b) → K r) : remW a b K := by
  refine ⟨by omega, hk _ ?_ ?_ fun h0 => Int.tmod_eq_emod_of_nonneg h0⟩
  · have := Int.lt_tmod_of_pos a h; omega
  · exact Int.tmod_lt_of_pos a h
theorem ite_self_of {p x y : Prop} [Decidable p] (h : p) : (if p then x else y) = x := if_pos h

/-! ### Bytes as cells -/
def bl (l : List UInt8) : List AV := l.map fun b => .int .u8 b.toNat
theorem bytesOf_bl (s : ByteArray) : bytesOf s = bl (bytesL s) := rfl
theorem toBytes_bl : ∀ l : List UInt8, toBytes (bl l) = some l
  | [] => rfl
  | b :: l => by
    have ih := toBytes_bl l
    unfold bl at ih ⊢
    rw [List.map_cons, toBytes, ih]
    simp
theorem bl_length (l : List UInt8) : (bl l).length = l.length := by simp [bl]
theorem bl_get {l : List UInt8} {i : Nat} (h : i < l.length) : (bl l)[i]? = some (.int .u8 (l[i]).toNat) := by
  simp [bl, List.getElem?_eq_getElem h]
theorem bl_set (l : List UInt8) (i : Nat) (b : UInt8) : (bl l).set i (.int .u8 b.toNat) = bl (l.set i b) := by
  unfold bl; rw [List.map_set]
theorem bl_append (l l' : List UInt8) : bl l ++ bl l' = bl (l ++ l') := by simp [bl]
theorem bl_one (l : List UInt8) : (bl l).all AV.one = true := by
  rw [List.all_eq_true]
  intro x hx
  simp only [bl, List.mem_map] at hx
  obtain ⟨b, _, rfl⟩ := hx
  rfl
theorem bl_take (l : List UInt8) (n : Nat) : (bl l).take n = bl (l.take n) := by simp [bl, List.map_take]
theorem bl_drop (l : List UInt8) (n : Nat) : (bl l).drop n = bl (l.drop n) := by simp [bl, List.map_drop]
theorem bl_one_byte {n : Int} (h : 0 ≤ n ∧ n < 256) : [AV.int .u8 n] = bl [UInt8.ofNat n.toNat] := by
  simp only [bl, List.map_cons, List.map_nil, UInt8.toNat_ofNat']
  congr 2; omega
/-- The bytes of a slice, read as a string. -/
theorem bstr_bl {σ : Mem} {b n : Nat} {c : Cap} {l : List UInt8} {K : ByteArray → Prop} (h : σ.get b = some (.rw (bl l))) (hn : n = l.length) (hk : K ⟨l.toArray⟩) : bstrW σ (.slice b 0 n c) K := by
  subst hn
  refine opt (a := (σ.cells b 0 l.length).bind toBytes) (v := l) ?_ hk
  rw [Mem.cells_of h, if_pos (by rw [bl_length]; omega)]
  simp only [Option.bind_some, List.drop_zero]
  rw [bl_take, List.take_length, toBytes_bl]
theorem bytesL_mk (l : List UInt8) : bytesL ⟨l.toArray⟩ = l := by simp [bytesL]
theorem size_mk (l : List UInt8) : (⟨l.toArray⟩ : ByteArray).size = l.length := by simp [ByteArray.size]
theorem mk_bytesL (s : ByteArray) : (⟨(bytesL s).toArray⟩ : ByteArray) = s := by cases s; simp [bytesL]
theorem bytesL_inj {a b : ByteArray} (h : bytesL a = bytesL b) : a = b := by rw [← mk_bytesL a, h, mk_bytesL]
theorem bytesL_append (a b : ByteArray) : bytesL (a ++ b) = bytesL a ++ bytesL b := by simp [bytesL]
theorem byteAt_mk (l : List UInt8) (i : Nat) : byteAt ⟨l.toArray⟩ i = (l[i]?.getD 0).toNat := by simp [byteAt, bytesL_mk]
theorem byteAt_lt_of {s : ByteArray} {i : Nat} (h : i < (bytesL s).length) : byteAt s i = ((bytesL s)[i]).toNat := by
  unfold byteAt; rw [List.getElem?_eq_getElem h]; rfl
theorem bytes_ext {a b : ByteArray} (hs : a.size = b.size) (h : ∀ i, i < a.size → byteAt a i = byteAt b i) : a = b := by
  refine bytesL_inj (List.ext_getElem (by rw [bytesL_length, bytesL_length, hs]) fun i h1 h2 => ?_)
  have := h i (by rw [← bytesL_length]; exact h1)
  rw [byteAt_lt_of h1, byteAt_lt_of h2] at this
  exact UInt8.toNat_inj.1 this
theorem bitsX8 {x y : Nat} (hx : x < 256) (hy : y < 256) : bitsOp .xor .u8 (x : Int) (y : Int) = ((x ^^^ y : Nat) : Int) := by
  show IntKind.u8.wrap (((BitVec.ofInt 8 (x : Int) ^^^ BitVec.ofInt 8 (y : Int)).toNat : Nat) : Int) = _
  rw [show BitVec.ofInt 8 (x : Int) = BitVec.ofNat 8 x from by simp, show BitVec.ofInt 8 (y : Int) = BitVec.ofNat 8 y from by simp, BitVec.toNat_xor, BitVec.toNat_ofNat, BitVec.toNat_ofNat, Nat.mod_eq_of_lt (by omega), Nat.mod_eq_of_lt (by omega), wrap_u8']
  have : x ^^^ y < 2 ^ 8 := Nat.xor_lt_two_pow (by omega) (by omega)
  omega
where wrap_u8' (n : Int) : IntKind.u8.wrap n = n % 256 := rfl
theorem bitsA8 {x y : Nat} (hx : x < 256) (hy : y < 256) : bitsOp .and .u8 (x : Int) (y : Int) = ((x &&& y : Nat) : Int) := by
  show IntKind.u8.wrap (((BitVec.ofInt 8 (x : Int) &&& BitVec.ofInt 8 (y : Int)).toNat : Nat) : Int) = _
  rw [show BitVec.ofInt 8 (x : Int) = BitVec.ofNat 8 x from by simp, show BitVec.ofInt 8 (y : Int) = BitVec.ofNat 8 y from by simp, BitVec.toNat_and, BitVec.toNat_ofNat, BitVec.toNat_ofNat, Nat.mod_eq_of_lt (by omega), Nat.mod_eq_of_lt (by omega), bitsX8.wrap_u8']
  have : x &&& y ≤ x := Nat.and_le_left
  omega
theorem bitsO8 {x y : Nat} (hx : x < 256) (hy : y < 256) : bitsOp .or .u8 (x : Int) (y : Int) = ((x ||| y : Nat) : Int) := by
  show IntKind.u8.wrap (((BitVec.ofInt 8 (x : Int) ||| BitVec.ofInt 8 (y : Int)).toNat : Nat) : Int) = _
  rw [show BitVec.ofInt 8 (x : Int) = BitVec.ofNat 8 x from by simp, show BitVec.ofInt 8 (y : Int) = BitVec.ofNat 8 y from by simp, BitVec.toNat_or, BitVec.toNat_ofNat, BitVec.toNat_ofNat, Nat.mod_eq_of_lt (by omega), Nat.mod_eq_of_lt (by omega), bitsX8.wrap_u8']
  have : x ||| y < 2 ^ 8 := Nat.or_lt_two_pow (by omega) (by omega)
  omega
end Go.Vit
