/- How a proof goes through printed conditions: short words, one step after the other (instances of To), rules for loops and for places where ways meet. -/
import Derived.Test.YthkehkmnfaaagaaVsC
import Derived.Attr
set_option linter.unusedVariables false
set_option linter.unusedSimpArgs false
namespace Go.Vit
abbrev tI : Tag := .i .i64
abbrev tU : Tag := .i .u8
def iW (n : Int) (K : Int → Prop) : Prop := wrW .i64 n K
def catW (a b : ByteArray) (K : ByteArray → Prop) : Prop := a.size + b.size ≤ 9223372036854775807 ∧ K (a ++ b)
def nfW (off : Nat) (v : AV) (K : AV → Prop) : Prop := nchkW v fun p => fldW off p K
def ldI (σ : Mem) (v : AV) (K : Int → Prop) : Prop := ldW σ v fun a => castI .i64 a K
def ldU (σ : Mem) (v : AV) (K : Int → Prop) : Prop := ldW σ v fun a => castI .u8 a K
def ldB (σ : Mem) (v : AV) (K : Bool → Prop) : Prop := ldW σ v fun a => castB a K
def ldS (σ : Mem) (v : AV) (K : ByteArray → Prop) : Prop := ldW σ v fun a => castS a K
def lfW (off : Nat) (σ : Mem) (v : AV) (K : AV → Prop) : Prop := nchkW v fun p => fldW off p fun p => ldW σ p K
def lfI (off : Nat) (σ : Mem) (v : AV) (K : Int → Prop) : Prop := lfW off σ v fun a => castI .i64 a K
def lfU (off : Nat) (σ : Mem) (v : AV) (K : Int → Prop) : Prop := lfW off σ v fun a => castI .u8 a K
def lfB (off : Nat) (σ : Mem) (v : AV) (K : Bool → Prop) : Prop := lfW off σ v fun a => castB a K
def lfS (off : Nat) (σ : Mem) (v : AV) (K : ByteArray → Prop) : Prop := lfW off σ v fun a => castS a K
def tpI (v : AV) (i : Nat) (K : Int → Prop) : Prop := tupW v i fun a => castI .i64 a K
def tpU (v : AV) (i : Nat) (K : Int → Prop) : Prop := tupW v i fun a => castI .u8 a K
def tpB (v : AV) (i : Nat) (K : Bool → Prop) : Prop := tupW v i fun a => castB a K
def tpS (v : AV) (i : Nat) (K : ByteArray → Prop) : Prop := tupW v i fun a => castS a K
theorem wrap_i64 {n : Int} (h1 : -9223372036854775808 ≤ n) (h2 : n ≤ 9223372036854775807) : IntKind.i64.wrap n = n := IntWalk.i64_in _ (by omega)
theorem iW_eq {n : Int} {K : Int → Prop} (h : -9223372036854775808 ≤ n ∧ n ≤ 9223372036854775807) : iW n K = K n := by unfold iW wrW; rw [wrap_i64 h.1 h.2]

/-- Single cells. -/
class One (l : List AV) : Prop where
  one : l.all AV.one = true
/-- One step: what is left to be shown. -/
class To (p : Prop) (q : outParam Prop) : Prop where
  go : q → p
section
variable {σ : Mem} {b o n k off i : Nat} {c : Cap} {l : List AV}
instance {α : Type} {a : α} {K : α → Prop} : To (letW a K) (K a) := ⟨id⟩
instance {x y : Prop} : To (ifB true x y) x := ⟨id⟩
instance {x y : Prop} : To (ifB false x y) y := ⟨id⟩
instance {b : Bool} {x y : Prop} : To (ifB (!b) x y) (ifB b y x) := ⟨by cases b <;> exact id⟩
instance {n : Int} {K : Int → Prop} : To (iW n K) ((-9223372036854775808 ≤ n ∧ n ≤ 9223372036854775807) ∧ K n) := ⟨fun h => by rw [iW_eq h.1]; exact h.2⟩
instance {n : Int} {K : Int → Prop} : To (wrW .i64 n K) (iW n K) := ⟨id⟩
instance {n : Int} {K : Int → Prop} : To (wrW .u8 n K) (K (n % 256)) := ⟨id⟩
instance {n : Int} {K : Int → Prop} : To (wrW .u16 n K) (K (n % 65536)) := ⟨id⟩
instance {n : Int} {K : Int → Prop} : To (wrW .u32 n K) (K (n % 4294967296)) := ⟨id⟩
instance {n : Int} {K : Int → Prop} : To (wrW .u64 n K) (K (n % 18446744073709551616)) := ⟨id⟩
instance {x y : Int} {K : Int → Prop} : To (quoW .i64 x y K) ((0 ≤ x ∧ x ≤ 9223372036854775807 ∧ 0 < y) ∧ K (x / y)) := ⟨fun ⟨⟨h0, h1, h2⟩, h⟩ => by
  have hd : 0 ≤ x / y := Int.ediv_nonneg h0 (by omega)
  have hl : x / y ≤ x := Int.ediv_le_self _ h0
  refine ⟨by omega, ?_⟩
  rw [Int.tdiv_eq_ediv_of_nonneg h0, wrap_i64 (by omega) (by omega)]; exact h⟩
instance {x y : Int} {K : Int → Prop} : To (remW x y K) ((0 ≤ x ∧ 0 < y) ∧ K (x % y)) := ⟨fun ⟨⟨h0, h1⟩, h⟩ => by
  refine ⟨by omega, ?_⟩
  rw [Int.tmod_eq_emod_of_nonneg h0]; exact h⟩
instance {x y : Int} {K : Int → Prop} : To (shlW .i64 x y K) ((0 ≤ y ∧ y ≤ 64) ∧ iW (x * 2 ^ y.toNat) K) := ⟨fun ⟨⟨h0, h1⟩, h⟩ => by
  refine ⟨h0, ?_⟩
  rw [shAmt, if_pos (by simp [IntKind.bits]; omega), pow2_eq]; exact h⟩
instance {x y : Int} {K : Int → Prop} : To (shrW .i64 x y K) ((0 ≤ y ∧ y ≤ 64) ∧ K (x / 2 ^ y.toNat)) := ⟨fun ⟨⟨h0, h1⟩, h⟩ => by
  refine ⟨h0, ?_⟩
  rw [shAmt, if_pos (by simp [IntKind.bits]; omega), pow2_eq]; exact h⟩
instance {x y : Int} {K : Int → Prop} : To (shlW .u8 x y K) ((0 ≤ y ∧ y ≤ 8) ∧ K (x * 2 ^ y.toNat % 256)) := ⟨fun ⟨⟨h0, h1⟩, h⟩ => by
  refine ⟨h0, ?_⟩
  rw [shAmt, if_pos (by simp [IntKind.bits]; omega), pow2_eq]; exact h⟩
instance {x y : Int} {K : Int → Prop} : To (shrW .u8 x y K) ((0 ≤ y ∧ y ≤ 8) ∧ K (x / 2 ^ y.toNat)) := ⟨fun ⟨⟨h0, h1⟩, h⟩ => by
  refine ⟨h0, ?_⟩
  rw [shAmt, if_pos (by simp [IntKind.bits]; omega), pow2_eq]; exact h⟩
instance {k : IntKind} {n : Int} {K : Int → Prop} : To (castI k (.int k n) K) (K n) := ⟨by cases k <;> exact id⟩
instance {b : Bool} {K : Bool → Prop} : To (castB (.bool b) K) (K b) := ⟨id⟩
instance {s : ByteArray} {K : ByteArray → Prop} : To (castS (.str s) K) (K s) := ⟨id⟩
instance {K : Int → Prop} : To (slenW .nils K) (K 0) := ⟨id⟩
instance {K : Int → Prop} : To (slenW (.slice b o n c) K) (K (n : Nat)) := ⟨id⟩
instance {K : AV → Prop} : To (fldW off (.ptr b 0) K) (K (.ptr b off)) := ⟨by simp only [fldW, Nat.zero_add]; exact id⟩
instance (priority := low) {K : AV → Prop} : To (fldW off (.ptr b o) K) (K (.ptr b (o + off))) := ⟨id⟩
instance (priority := 1100) {K : AV → Prop} : To (fldW 0 (.ptr b o) K) (K (.ptr b o)) := ⟨id⟩
instance (priority := 1100) {K : AV → Prop} : To (nfW 0 (.ptr b o) K) (K (.ptr b o)) := ⟨id⟩
instance (priority := 1100) {K : AV → Prop} : To (lfW 0 σ (.ptr b o) K) (ldW σ (.ptr b o) K) := ⟨id⟩
instance {K : AV → Prop} : To (nfW off (.ptr b 0) K) (K (.ptr b off)) := ⟨by simp only [nfW, nchkW, fldW, Nat.zero_add]; exact id⟩
instance (priority := low) {K : AV → Prop} : To (nfW off (.ptr b o) K) (K (.ptr b (o + off))) := ⟨id⟩
instance {v : AV} {K : Int → Prop} : To (ldI σ v K) (ldW σ v fun a => castI .i64 a K) := ⟨id⟩
instance {v : AV} {K : Int → Prop} : To (ldU σ v K) (ldW σ v fun a => castI .u8 a K) := ⟨id⟩
instance {v : AV} {K : Bool → Prop} : To (ldB σ v K) (ldW σ v fun a => castB a K) := ⟨id⟩
instance {v : AV} {K : ByteArray → Prop} : To (ldS σ v K) (ldW σ v fun a => castS a K) := ⟨id⟩
instance {K : AV → Prop} : To (lfW off σ (.ptr b 0) K) (ldW σ (.ptr b off) K) := ⟨by simp only [lfW, nchkW, fldW, Nat.zero_add]; exact id⟩
instance (priority := low) {K : AV → Prop} : To (lfW off σ (.ptr b o) K) (ldW σ (.ptr b (o + off)) K) := ⟨id⟩
instance {v : AV} {K : Int → Prop} : To (lfI off σ v K) (lfW off σ v fun a => castI .i64 a K) := ⟨id⟩
instance {v : AV} {K : Int → Prop} : To (lfU off σ v K) (lfW off σ v fun a => castI .u8 a K) := ⟨id⟩
instance {v : AV} {K : Bool → Prop} : To (lfB off σ v K) (lfW off σ v fun a => castB a K) := ⟨id⟩
instance {v : AV} {K : ByteArray → Prop} : To (lfS off σ v K) (lfW off σ v fun a => castS a K) := ⟨id⟩
instance {v : AV} {K : Int → Prop} : To (tpI v i K) (tupW v i fun a => castI .i64 a K) := ⟨id⟩
instance {v : AV} {K : Int → Prop} : To (tpU v i K) (tupW v i fun a => castI .u8 a K) := ⟨id⟩
instance {v : AV} {K : Bool → Prop} : To (tpB v i K) (tupW v i fun a => castB a K) := ⟨id⟩
instance {v : AV} {K : ByteArray → Prop} : To (tpS v i K) (tupW v i fun a => castS a K) := ⟨id⟩
instance {K : AV → Prop} : To (nchkW (.ptr b o) K) (K (.ptr b o)) := ⟨id⟩
instance {f : Nat} {K : AV → Prop} : To (nchkW (.func f l) K) (K (.func f l)) := ⟨id⟩
instance {K : AV → Prop} : To (tupW (.tup l) i K) (optW l[i]? K) := ⟨id⟩
instance {k : Option Nat} {K : AV → Prop} : To (aggW off k (.agg l) K) (optW (partA l off k) K) := ⟨id⟩
instance {α : Type} {a : α} {K : α → Prop} : To (optW (some a) K) (K a) := ⟨id⟩
instance (priority := 1000) {j : Int} {K : AV → Prop} : To (idxW k (.slice b o n c) j K) ((0 ≤ j ∧ j < n) ∧ K (.ptr b (o + j.toNat * k))) := ⟨fun h => ⟨by omega, by simpa using h.2⟩⟩
instance (priority := 1500) {j : Nat} {K : AV → Prop} : To (idxW k (.slice b o n c) ((j : Nat) : Int) K) ((j < n) ∧ K (.ptr b (o + j * k))) := ⟨fun h => ⟨by omega, by simpa using h.2⟩⟩
instance (priority := 1100) {j : Int} {K : AV → Prop} : To (idxW 1 (.slice b o n c) j K) ((0 ≤ j ∧ j < n) ∧ K (.ptr b (o + j.toNat))) := ⟨fun h => ⟨by omega, by simpa using h.2⟩⟩
instance (priority := 1600) {j : Nat} {K : AV → Prop} : To (idxW 1 (.slice b o n c) ((j : Nat) : Int) K) ((j < n) ∧ K (.ptr b (o + j))) := ⟨fun h => ⟨by omega, by simpa using h.2⟩⟩
instance (priority := 1100) {j : Int} {K : AV → Prop} : To (idxW k (.slice b 0 n c) j K) ((0 ≤ j ∧ j < n) ∧ K (.ptr b (j.toNat * k))) := ⟨fun h => ⟨by omega, by simpa using h.2⟩⟩
instance (priority := 1600) {j : Nat} {K : AV → Prop} : To (idxW k (.slice b 0 n c) ((j : Nat) : Int) K) ((j < n) ∧ K (.ptr b (j * k))) := ⟨fun h => ⟨by omega, by simpa using h.2⟩⟩
instance (priority := 1200) {j : Int} {K : AV → Prop} : To (idxW 1 (.slice b 0 n c) j K) ((0 ≤ j ∧ j < n) ∧ K (.ptr b (j.toNat))) := ⟨fun h => ⟨by omega, by simpa using h.2⟩⟩
instance (priority := 1700) {j : Nat} {K : AV → Prop} : To (idxW 1 (.slice b 0 n c) ((j : Nat) : Int) K) ((j < n) ∧ K (.ptr b (j))) := ⟨fun h => ⟨by omega, by simpa using h.2⟩⟩
instance {j : Int} {K : AV → Prop} : To (idxAW n k (.ptr b o) j K) ((0 ≤ j ∧ j < n) ∧ K (.ptr b (o + j.toNat * k))) := ⟨id⟩
instance {s : ByteArray} {j : Int} {K : Int → Prop} : To (sidxW s j K) ((0 ≤ j ∧ j < s.size) ∧ K (byteAt s j.toNat : Nat)) := ⟨id⟩
instance {q : Option Nat} {j : Int} {K : AV → Prop} : To (aidxW n k q (.agg l) j K) ((0 ≤ j ∧ j < n) ∧ optW (partA l (j.toNat * k) q) K) := ⟨id⟩
instance {s s' : ByteArray} {K : ByteArray → Prop} : To (catW s s' K) (s.size + s'.size ≤ 9223372036854775807 ∧ K (s ++ s')) := ⟨id⟩
instance {s : ByteArray} {lo hi : Int} {K : ByteArray → Prop} : To (subW s lo hi K) ((0 ≤ lo ∧ lo ≤ hi ∧ hi ≤ s.size) ∧ K (s.extract lo.toNat hi.toNat)) := ⟨id⟩
instance {s : ByteArray} {X : Prop} : To (sbytesW s X) (s.size ≤ 9223372036854775806 ∧ X) := ⟨id⟩
instance {x y : Int} {X : Prop} : To (makeW k x y X) ((0 ≤ x ∧ x ≤ y ∧ (k : Int) * y ≤ 140737488355328 ∧ y ≤ 9223372036854775807) ∧ X) := ⟨id⟩
instance {id : Nat} {blk : Blk} {K : Mem → Prop} : To (newW σ id blk K) (K (σ.put id (some blk))) := ⟨fun h => h⟩
instance {K : ByteArray → Prop} : To (bstrW σ .nils K) (K ByteArray.empty) := ⟨id⟩
instance {K : Int → Prop} : To (mlenW σ .nilm K) (K 0) := ⟨id⟩
instance {K : Bool → Prop} : To (eqW .ptr .nilp .nilp K) (K true) := ⟨id⟩
instance {K : Bool → Prop} : To (eqW .ptr (.ptr b o) .nilp K) (K false) := ⟨id⟩
instance {K : Bool → Prop} : To (eqW .sl .nils .nils K) (K true) := ⟨id⟩
instance {K : Bool → Prop} : To (eqW .sl (.slice b o n c) .nils K) (K false) := ⟨id⟩
instance {K : Bool → Prop} : To (eqW .map .nilm .nilm K) (K true) := ⟨id⟩
instance {K : Bool → Prop} : To (eqW .map (.map b) .nilm K) (K false) := ⟨id⟩
instance {x y : Bool} {K : Bool → Prop} : To (eqW .bool (.bool x) (.bool y) K) (K (x == y)) := ⟨id⟩
instance {l' : List AV} {os : List (Nat × Nat)} {K : Bool → Prop} : To (eqW (.flat os) (.agg l) (.agg l') K) (flatW l l' os K) := ⟨id⟩
instance {l' : List AV} {K : Bool → Prop} : To (flatW l l' [] K) (K true) := ⟨id⟩
instance {l' : List AV} {p : Nat × Nat} {os : List (Nat × Nat)} {K : Bool → Prop} : To (flatW l l' (p :: os) K) (optW l[p.1]? fun x => optW l'[p.1]? fun y => scalarW p.2 x y fun r => flatW l l' os fun q => K (r && q)) := ⟨id⟩
instance {x y : Bool} {K : Bool → Prop} : To (scalarW 0 (.bool x) (.bool y) K) (K (x == y)) := ⟨id⟩
instance {x y : Int} {k : IntKind} {K : Bool → Prop} : To (scalarW 1 (.int k x) (.int k y) K) (K (decide (x = y))) := ⟨fun h => ⟨rfl, h⟩⟩
instance {x y : ByteArray} {K : Bool → Prop} : To (scalarW 2 (.str x) (.str y) K) (K (decide (x = y))) := ⟨id⟩
instance {k : IntKind} {n : Int} {X : Prop} : To (cellOkW (.int k n) 1 X) X := ⟨id⟩
instance {x : Bool} {X : Prop} : To (cellOkW (.bool x) 1 X) X := ⟨id⟩
instance {s : ByteArray} {X : Prop} : To (cellOkW (.str s) 1 X) X := ⟨id⟩
instance {X : Prop} : To (cellOkW .nilp 1 X) X := ⟨id⟩
instance {X : Prop} : To (cellOkW (.ptr b o) 1 X) X := ⟨id⟩
instance {X : Prop} : To (cellOkW .nils 1 X) X := ⟨id⟩
instance {X : Prop} : To (cellOkW (.slice b o n c) 1 X) X := ⟨id⟩
instance {X : Prop} : To (cellOkW .nilm 1 X) X := ⟨id⟩
instance {X : Prop} : To (cellOkW (.map b) 1 X) X := ⟨id⟩
instance {X : Prop} : To (cellOkW .nilf 1 X) X := ⟨id⟩
instance {f : Nat} {X : Prop} : To (cellOkW (.func f l) 1 X) X := ⟨id⟩
instance {X : Prop} : To (cellOkW (.agg l) n X) ((l.length = n ∧ l.all AV.one = true) ∧ X) := ⟨id⟩
instance : One [] := ⟨rfl⟩
instance {k : IntKind} {n : Int} {l : List AV} [h : One l] : One (.int k n :: l) := ⟨h.one⟩
instance {x : Bool} {l : List AV} [h : One l] : One (.bool x :: l) := ⟨h.one⟩
instance {s : ByteArray} {l : List AV} [h : One l] : One (.str s :: l) := ⟨h.one⟩
instance {l : List AV} [h : One l] : One (.nilp :: l) := ⟨h.one⟩
instance {l : List AV} [h : One l] : One (.ptr b o :: l) := ⟨h.one⟩
instance {l : List AV} [h : One l] : One (.nils :: l) := ⟨h.one⟩
instance {l : List AV} [h : One l] : One (.slice b o n c :: l) := ⟨h.one⟩
instance {l : List AV} [h : One l] : One (.nilm :: l) := ⟨h.one⟩
instance {l : List AV} [h : One l] : One (.map b :: l) := ⟨h.one⟩
instance {l : List AV} [h : One l] : One (.nilf :: l) := ⟨h.one⟩
instance {f : Nat} {l' l : List AV} [h : One l] : One (.func f l' :: l) := ⟨h.one⟩
instance [h : One l] {X : Prop} : To (boxW (.agg l) X) X := ⟨fun x => ⟨h.one, x⟩⟩
instance (priority := low) {X : Prop} : To (boxW (.agg l) X) (l.all AV.one = true ∧ X) := ⟨id⟩
instance {lo hi : Int} {K : AV → Prop} : To (slcW k (.slice b o n (.ex i)) (some lo) (some hi) K) ((0 ≤ lo ∧ lo ≤ hi ∧ hi ≤ i) ∧ K (.slice b (o + lo.toNat * k) (hi.toNat - lo.toNat) (.ex (i - lo.toNat)))) := ⟨fun h => ⟨⟨rfl, h.1⟩, h.2⟩⟩
instance {lo : Int} {K : AV → Prop} : To (slcW k (.slice b o n (.ex i)) (some lo) none K) ((0 ≤ lo ∧ lo ≤ n ∧ n ≤ i) ∧ K (.slice b (o + lo.toNat * k) (n - lo.toNat) (.ex (i - lo.toNat)))) := ⟨fun h => ⟨⟨rfl, h.1.1, h.1.2.1, by have := h.1.2.2; exact Int.ofNat_le.2 this⟩, h.2⟩⟩
instance {hi : Int} {K : AV → Prop} : To (slcW k (.slice b o n (.ex i)) none (some hi) K) ((0 ≤ hi ∧ hi ≤ i) ∧ K (.slice b o hi.toNat (.ex i))) := ⟨fun h => ⟨⟨rfl, Int.le_refl _, h.1⟩, by simpa [orD, Cap.cut] using h.2⟩⟩
instance {lo hi : Int} {K : AV → Prop} : To (slcW k (.slice b o n (.op i)) (some lo) (some hi) K) ((0 ≤ lo ∧ lo ≤ hi ∧ hi ≤ n ∧ (i = k ∨ i = 0)) ∧ K (.slice b (o + lo.toNat * k) (hi.toNat - lo.toNat) (.op i))) := ⟨fun h => ⟨⟨by simp [Cap.fits, h.1.2.2.2], h.1.1, h.1.2.1, h.1.2.2.1⟩, h.2⟩⟩
instance {lo : Int} {K : AV → Prop} : To (slcW k (.slice b o n (.op i)) (some lo) none K) ((0 ≤ lo ∧ lo ≤ n ∧ (i = k ∨ i = 0)) ∧ K (.slice b (o + lo.toNat * k) (n - lo.toNat) (.op i))) := ⟨fun h => ⟨⟨by simp [Cap.fits, h.1.2.2], h.1.1, h.1.2.1, Int.le_refl _⟩, h.2⟩⟩
instance {hi : Int} {K : AV → Prop} : To (slcW k (.slice b o n (.op i)) none (some hi) K) ((0 ≤ hi ∧ hi ≤ n ∧ (i = k ∨ i = 0)) ∧ K (.slice b o hi.toNat (.op i))) := ⟨fun h => ⟨⟨by simp [Cap.fits, h.1.2.2], Int.le_refl _, h.1.1, h.1.2.1⟩, by simpa [orD, Cap.cut] using h.2⟩⟩
instance {lo hi : Option Int} {K : AV → Prop} : To (slcW k .nils lo hi K) ((0 ≤ orD 0 lo ∧ orD 0 lo ≤ orD 0 hi ∧ orD 0 hi ≤ 0) ∧ K .nils) := ⟨id⟩
instance {lo hi : Int} {K : AV → Prop} : To (slaW n k (.ptr b o) (some lo) (some hi) K) ((0 ≤ lo ∧ lo ≤ hi ∧ hi ≤ n) ∧ K (.slice b (o + lo.toNat * k) (hi.toNat - lo.toNat) (.ex (n - lo.toNat)))) := ⟨id⟩
instance {K : AV → Prop} : To (slaW n k (.ptr b o) none none K) (K (.slice b o n (.ex n))) := ⟨fun h => ⟨⟨Int.le_refl _, Int.natCast_nonneg n, Int.le_refl _⟩, by simpa [orD] using h⟩⟩
instance {σ' : Mem} {X : Prop} : To (fltS.sameW σ σ' (.ptr b o) X) (σ'.get b = σ.get b ∧ X) := ⟨id⟩
instance {σ' : Mem} {X : Prop} : To (fltS.sameW σ σ' (.slice b o n c) X) (σ'.get b = σ.get b ∧ X) := ⟨id⟩
instance {σ' : Mem} {X : Prop} : To (fltS.sameW σ σ' (.map b) X) (σ'.get b = σ.get b ∧ X) := ⟨id⟩
instance {σ' : Mem} {X : Prop} : To (fltS.sameW σ σ' .nils X) X := ⟨id⟩
instance {σ' : Mem} {X : Prop} : To (fltS.sameW σ σ' .nilm X) X := ⟨id⟩
instance {K : Nat → List AV → Prop} : To (srcW σ k .nils K) (K 0 []) := ⟨id⟩
instance {s : ByteArray} {K : Nat → List AV → Prop} : To (srcW σ 1 (.str s) K) (K s.size (bytesOf s)) := ⟨fun h => ⟨rfl, h⟩⟩
instance (priority := high) {j : Nat} {K : AV → Prop} : To (idxAW n k (.ptr b o) (j : Int) K) (j < n ∧ K (.ptr b (o + j * k))) := ⟨fun h => ⟨by omega, by simpa using h.2⟩⟩
instance (priority := high) {s : ByteArray} {j : Nat} {K : Int → Prop} : To (sidxW s (j : Int) K) (j < s.size ∧ K (byteAt s j : Nat)) := ⟨fun h => ⟨by omega, by simpa using h.2⟩⟩
instance (priority := 1600) {K : AV → Prop} : To (idxW k (.slice b o n c) 0 K) (0 < n ∧ K (.ptr b (o))) := ⟨fun h => ⟨by omega, by simpa using h.2⟩⟩
instance (priority := 1700) {K : AV → Prop} : To (idxW 1 (.slice b o n c) 0 K) (0 < n ∧ K (.ptr b (o))) := ⟨fun h => ⟨by omega, by simpa using h.2⟩⟩
instance (priority := 1700) {K : AV → Prop} : To (idxW k (.slice b 0 n c) 0 K) (0 < n ∧ K (.ptr b (0))) := ⟨fun h => ⟨by omega, by simpa using h.2⟩⟩
instance (priority := 1800) {K : AV → Prop} : To (idxW 1 (.slice b 0 n c) 0 K) (0 < n ∧ K (.ptr b (0))) := ⟨fun h => ⟨by omega, by simpa using h.2⟩⟩
instance (priority := 1600) {s : ByteArray} {K : Int → Prop} : To (sidxW s 0 K) (0 < s.size ∧ K (byteAt s 0 : Nat)) := ⟨fun h => ⟨by omega, h.2⟩⟩
instance (priority := 1600) {K : AV → Prop} : To (idxAW n k (.ptr b o) 0 K) (0 < n ∧ K (.ptr b (o + 0 * k))) := ⟨fun h => ⟨by omega, h.2⟩⟩
instance (priority := 1600) {K : AV → Prop} : To (idxW k (.slice b o n c) 1 K) (1 < n ∧ K (.ptr b (o + 1 * k))) := ⟨fun h => ⟨by omega, by simpa using h.2⟩⟩
instance (priority := 1700) {K : AV → Prop} : To (idxW 1 (.slice b o n c) 1 K) (1 < n ∧ K (.ptr b (o + 1))) := ⟨fun h => ⟨by omega, by simpa using h.2⟩⟩
instance (priority := 1700) {K : AV → Prop} : To (idxW k (.slice b 0 n c) 1 K) (1 < n ∧ K (.ptr b (1 * k))) := ⟨fun h => ⟨by omega, by simpa using h.2⟩⟩
instance (priority := 1800) {K : AV → Prop} : To (idxW 1 (.slice b 0 n c) 1 K) (1 < n ∧ K (.ptr b (1))) := ⟨fun h => ⟨by omega, by simpa using h.2⟩⟩
instance (priority := 1600) {s : ByteArray} {K : Int → Prop} : To (sidxW s 1 K) (1 < s.size ∧ K (byteAt s 1 : Nat)) := ⟨fun h => ⟨by omega, h.2⟩⟩
instance (priority := 1600) {K : AV → Prop} : To (idxAW n k (.ptr b o) 1 K) (1 < n ∧ K (.ptr b (o + 1 * k))) := ⟨fun h => ⟨by omega, h.2⟩⟩
instance (priority := 1600) {K : AV → Prop} : To (idxW k (.slice b o n c) 2 K) (2 < n ∧ K (.ptr b (o + 2 * k))) := ⟨fun h => ⟨by omega, by simpa using h.2⟩⟩
instance (priority := 1700) {K : AV → Prop} : To (idxW 1 (.slice b o n c) 2 K) (2 < n ∧ K (.ptr b (o + 2))) := ⟨fun h => ⟨by omega, by simpa using h.2⟩⟩
instance (priority := 1700) {K : AV → Prop} : To (idxW k (.slice b 0 n c) 2 K) (2 < n ∧ K (.ptr b (2 * k))) := ⟨fun h => ⟨by omega, by simpa using h.2⟩⟩
instance (priority := 1800) {K : AV → Prop} : To (idxW 1 (.slice b 0 n c) 2 K) (2 < n ∧ K (.ptr b (2))) := ⟨fun h => ⟨by omega, by simpa using h.2⟩⟩
instance (priority := 1600) {s : ByteArray} {K : Int → Prop} : To (sidxW s 2 K) (2 < s.size ∧ K (byteAt s 2 : Nat)) := ⟨fun h => ⟨by omega, h.2⟩⟩
instance (priority := 1600) {K : AV → Prop} : To (idxAW n k (.ptr b o) 2 K) (2 < n ∧ K (.ptr b (o + 2 * k))) := ⟨fun h => ⟨by omega, h.2⟩⟩
instance (priority := 1600) {K : AV → Prop} : To (idxW k (.slice b o n c) 3 K) (3 < n ∧ K (.ptr b (o + 3 * k))) := ⟨fun h => ⟨by omega, by simpa using h.2⟩⟩
instance (priority := 1700) {K : AV → Prop} : To (idxW 1 (.slice b o n c) 3 K) (3 < n ∧ K (.ptr b (o + 3))) := ⟨fun h => ⟨by omega, by simpa using h.2⟩⟩
instance (priority := 1700) {K : AV → Prop} : To (idxW k (.slice b 0 n c) 3 K) (3 < n ∧ K (.ptr b (3 * k))) := ⟨fun h => ⟨by omega, by simpa using h.2⟩⟩
instance (priority := 1800) {K : AV → Prop} : To (idxW 1 (.slice b 0 n c) 3 K) (3 < n ∧ K (.ptr b (3))) := ⟨fun h => ⟨by omega, by simpa using h.2⟩⟩
instance (priority := 1600) {s : ByteArray} {K : Int → Prop} : To (sidxW s 3 K) (3 < s.size ∧ K (byteAt s 3 : Nat)) := ⟨fun h => ⟨by omega, h.2⟩⟩
instance (priority := 1600) {K : AV → Prop} : To (idxAW n k (.ptr b o) 3 K) (3 < n ∧ K (.ptr b (o + 3 * k))) := ⟨fun h => ⟨by omega, h.2⟩⟩
theorem iW_raw {n : Int} {K : Int → Prop} (h : K ((n + 9223372036854775808) % 18446744073709551616 - 9223372036854775808)) : iW n K := by
  unfold iW wrW; rw [IntKind.wrap_i64]; exact h
/-! ### Forks -/
theorem ifT {p x y : Prop} [Decidable p] (h : p) (hx : x) : ifB (decide p) x y := by rw [decide_eq_true h]; exact hx
theorem ifF {p x y : Prop} [Decidable p] (h : ¬ p) (hy : y) : ifB (decide p) x y := by rw [decide_eq_false h]; exact hy
theorem ifD {p x y : Prop} [Decidable p] (h1 : p → x) (h2 : ¬ p → y) : ifB (decide p) x y := by
  by_cases h : p
  · exact ifT h (h1 h)
  · exact ifF h (h2 h)
theorem ifI {b : Bool} {x y : Prop} (h1 : b = true → x) (h2 : b = false → y) : ifB b x y := by
  cases b
  · exact h2 rfl
  · exact h1 rfl
theorem opt {α : Type} {a : Option α} {v : α} {K : α → Prop} (h : a = some v) (hk : K v) : optW a K := by rw [h]; exact hk
/-! ### Memory -/
theorem ldq {q : Blk} {v : AV} {K : AV → Prop} (h1 : σ.get b = some q) (h2 : (q.cellsR.bind fun c => c[o]?) = some v) (h : K v) : ldW σ (.ptr b o) K := by
  show optW ((σ.get b).bind fun k => k.cellsR.bind fun c => c[o]?) K
  rw [h1]; simp only [Option.bind_some, h2]; exact h
theorem ldrw {v : AV} {K : AV → Prop} (h1 : σ.get b = some (.rw l)) (h2 : l[o]? = some v) (h : K v) : ldW σ (.ptr b o) K := ldq h1 h2 h
theorem ldro {v : AV} {K : AV → Prop} (h1 : σ.get b = some (.ro l)) (h2 : l[o]? = some v) (h : K v) : ldW σ (.ptr b o) K := ldq h1 h2 h
theorem ldnq {q : Blk} {K : AV → Prop} (h1 : σ.get b = some q) (h2 : q.cellsR = some l) (h3 : o + n ≤ l.length) (h : K (.agg ((l.drop o).take n))) : ldnW n σ (.ptr b o) K := by
  show optW ((σ.get b).bind fun k => k.cellsR.bind fun c => if o + n ≤ c.length then some ((c.drop o).take n) else none) fun c => K (.agg c)
  rw [h1]; simp only [Option.bind_some, h2]; rw [if_pos h3]; exact h
theorem st1 {v : AV} {K : Mem → Prop} (h : σ.get b = some (.rw l)) (hn : o < l.length) (h1 : v.one = true) (hk : K (σ.put b (some (.rw (l.set o v))))) : stW 1 σ (.ptr b o) v K := by
  simp only [stW, h, optW]
  cases v <;> first | exact Bool.noConfusion h1 | exact ⟨hn, hk⟩
theorem stn {vs : List AV} {K : Mem → Prop} (h : σ.get b = some (.rw l)) (hn : o + n ≤ l.length) (h2 : vs.length = n) (h1 : vs.all AV.one = true) (hk : K (σ.put b (some (.rw (setAt l o vs))))) : stW n σ (.ptr b o) (.agg vs) K := by
  simp only [stW, h, optW]
  exact ⟨⟨h2, h1⟩, hn, hk⟩
theorem gB {x : Option Blk} {n : Nat} (h : σ.get b = x) : (σ.bump n).get b = x := h
theorem gN {b' : Nat} {x k : Option Blk} (hne : b' ≠ b) (h : σ.get b' = x) : (σ.put b k).get b' = x := (Mem.get_put_ne σ hne k).trans h
theorem gS' {k : Option Blk} : (σ.put b k).get b = k := Mem.get_put_self σ b k
theorem callW_of {P : Program} {f : Nat} {Q K : AV → Mem → Prop} (h : ACalls P f l σ Q) (hk : ∀ v σ', Q v σ' → K v σ') : callW P f l σ K := h.mono hk
theorem callvW_of {P : Program} {f : Nat} {l' : List AV} {Q K : AV → Mem → Prop} (h : ACalls P f (l ++ l') σ Q) (hk : ∀ v σ', Q v σ' → K v σ') : callvW P (.func f l') l σ K := h.mono hk
theorem joinI {gs : List Tag} {body : Fn gs → Prop} {rest : Fn gs} (h : body rest) : joinF gs body rest := ⟨rest, h, fun _ _ h => h⟩
end
attribute [go_sem] Mem.get_bump Mem.get_put_self Mem.get_put_ne Mem.next_put Mem.next_bump

/-- The round is gone. -/
def Again (p : Prop) : Prop := p
theorem again {p : Prop} (h : p) : Again p := h
/-- The call ends. -/
def Ends (p : Prop) : Prop := p
theorem ends {p : Prop} (h : p) : Ends p := h
/-! ### Loops and joins, by the number of their things -/
theorem loop0 {body : Fn [] → Fn []}  {σ : Mem} {ι : Type} (I : ι → Mem → Prop) (μ : ι → Nat) (i : ι) (h0 : I i  σ)
    (h : ∀ i  σ, I i  σ → body (fun  σ => Again (∃ j, I j  σ ∧ μ j < μ i))  σ) : loopF [] body  σ :=
  show loopA [] body () σ from ⟨ι, fun i a σ => I i  σ, μ, i, h0, fun i a σ hi => h i  σ hi⟩
theorem join0 {body : Fn [] → Prop} {rest : Fn []} (R : Mem → Prop) (h0 : body R) (h : ∀  σ, R  σ → rest  σ) : joinF [] body rest :=
  ⟨R, h0, fun a σ hi => h  σ hi⟩
theorem loop1 {g1 : Tag} {body : Fn [g1] → Fn [g1]} {x1 : g1.Ty} {σ : Mem} {ι : Type} (I : ι → g1.Ty → Mem → Prop) (μ : ι → Nat) (i : ι) (h0 : I i x1 σ)
    (h : ∀ i (x1 : g1.Ty) σ, I i x1 σ → body (fun x1 σ => Again (∃ j, I j x1 σ ∧ μ j < μ i)) x1 σ) : loopF [g1] body x1 σ :=
  show loopA [g1] body (x1, ()) σ from ⟨ι, fun i a σ => I i a.1 σ, μ, i, h0, fun i a σ hi => h i a.1 σ hi⟩
theorem join1 {g1 : Tag} {body : Fn [g1] → Prop} {rest : Fn [g1]} (R : g1.Ty → Mem → Prop) (h0 : body R) (h : ∀ (x1 : g1.Ty) σ, R x1 σ → rest x1 σ) : joinF [g1] body rest :=
  ⟨R, h0, fun a σ hi => h a.1 σ hi⟩
theorem loop2 {g1 g2 : Tag} {body : Fn [g1, g2] → Fn [g1, g2]} {x1 : g1.Ty} {x2 : g2.Ty} {σ : Mem} {ι : Type} (I : ι → g1.Ty → g2.Ty → Mem → Prop) (μ : ι → Nat) (i : ι) (h0 : I i x1 x2 σ)
    (h : ∀ i (x1 : g1.Ty) (x2 : g2.Ty) σ, I i x1 x2 σ → body (fun x1 x2 σ => Again (∃ j, I j x1 x2 σ ∧ μ j < μ i)) x1 x2 σ) : loopF [g1, g2] body x1 x2 σ :=
  show loopA [g1, g2] body (x1, x2, ()) σ from ⟨ι, fun i a σ => I i a.1 a.2.1 σ, μ, i, h0, fun i a σ hi => h i a.1 a.2.1 σ hi⟩
theorem join2 {g1 g2 : Tag} {body : Fn [g1, g2] → Prop} {rest : Fn [g1, g2]} (R : g1.Ty → g2.Ty → Mem → Prop) (h0 : body R) (h : ∀ (x1 : g1.Ty) (x2 : g2.Ty) σ, R x1 x2 σ → rest x1 x2 σ) : joinF [g1, g2] body rest :=
  ⟨R, h0, fun a σ hi => h a.1 a.2.1 σ hi⟩
theorem loop3 {g1 g2 g3 : Tag} {body : Fn [g1, g2, g3] → Fn [g1, g2, g3]} {x1 : g1.Ty} {x2 : g2.Ty} {x3 : g3.Ty} {σ : Mem} {ι : Type} (I : ι → g1.Ty → g2.Ty → g3.Ty → Mem → Prop) (μ : ι → Nat) (i : ι) (h0 : I i x1 x2 x3 σ)
    (h : ∀ i (x1 : g1.Ty) (x2 : g2.Ty) (x3 : g3.Ty) σ, I i x1 x2 x3 σ → body (fun x1 x2 x3 σ => Again (∃ j, I j x1 x2 x3 σ ∧ μ j < μ i)) x1 x2 x3 σ) : loopF [g1, g2, g3] body x1 x2 x3 σ :=
  show loopA [g1, g2, g3] body (x1, x2, x3, ()) σ from ⟨ι, fun i a σ => I i a.1 a.2.1 a.2.2.1 σ, μ, i, h0, fun i a σ hi => h i a.1 a.2.1 a.2.2.1 σ hi⟩
theorem join3 {g1 g2 g3 : Tag} {body : Fn [g1, g2, g3] → Prop} {rest : Fn [g1, g2, g3]} (R : g1.Ty → g2.Ty → g3.Ty → Mem → Prop) (h0 : body R) (h : ∀ (x1 : g1.Ty) (x2 : g2.Ty) (x3 : g3.Ty) σ, R x1 x2 x3 σ → rest x1 x2 x3 σ) : joinF [g1, g2, g3] body rest :=
  ⟨R, h0, fun a σ hi => h a.1 a.2.1 a.2.2.1 σ hi⟩
theorem loop4 {g1 g2 g3 g4 : Tag} {body : Fn [g1, g2, g3, g4] → Fn [g1, g2, g3, g4]} {x1 : g1.Ty} {x2 : g2.Ty} {x3 : g3.Ty} {x4 : g4.Ty} {σ : Mem} {ι : Type} (I : ι → g1.Ty → g2.Ty → g3.Ty → g4.Ty → Mem → Prop) (μ : ι → Nat) (i : ι) (h0 : I i x1 x2 x3 x4 σ)
    (h : ∀ i (x1 : g1.Ty) (x2 : g2.Ty) (x3 : g3.Ty) (x4 : g4.Ty) σ, I i x1 x2 x3 x4 σ → body (fun x1 x2 x3 x4 σ => Again (∃ j, I j x1 x2 x3 x4 σ ∧ μ j < μ i)) x1 x2 x3 x4 σ) : loopF [g1, g2, g3, g4] body x1 x2 x3 x4 σ :=
  show loopA [g1, g2, g3, g4] body (x1, x2, x3, x4, ()) σ from ⟨ι, fun i a σ => I i a.1 a.2.1 a.2.2.1 a.2.2.2.1 σ, μ, i, h0, fun i a σ hi => h i a.1 a.2.1 a.2.2.1 a.2.2.2.1 σ hi⟩
theorem join4 {g1 g2 g3 g4 : Tag} {body : Fn [g1, g2, g3, g4] → Prop} {rest : Fn [g1, g2, g3, g4]} (R : g1.Ty → g2.Ty → g3.Ty → g4.Ty → Mem → Prop) (h0 : body R) (h : ∀ (x1 : g1.Ty) (x2 : g2.Ty) (x3 : g3.Ty) (x4 : g4.Ty) σ, R x1 x2 x3 x4 σ → rest x1 x2 x3 x4 σ) : joinF [g1, g2, g3, g4] body rest :=
  ⟨R, h0, fun a σ hi => h a.1 a.2.1 a.2.2.1 a.2.2.2.1 σ hi⟩
theorem loop5 {g1 g2 g3 g4 g5 : Tag} {body : Fn [g1, g2, g3, g4, g5] → Fn [g1, g2, g3, g4, g5]} {x1 : g1.Ty} {x2 : g2.Ty} {x3 : g3.Ty} {x4 : g4.Ty} {x5 : g5.Ty} {σ : Mem} {ι : Type} (I : ι → g1.Ty → g2.Ty → g3.Ty → g4.Ty → g5.Ty → Mem → Prop) (μ : ι → Nat) (i : ι) (h0 : I i x1 x2 x3 x4 x5 σ)
    (h : ∀ i (x1 : g1.Ty) (x2 : g2.Ty) (x3 : g3.Ty) (x4 : g4.Ty) (x5 : g5.Ty) σ, I i x1 x2 x3 x4 x5 σ → body (fun x1 x2 x3 x4 x5 σ => Again (∃ j, I j x1 x2 x3 x4 x5 σ ∧ μ j < μ i)) x1 x2 x3 x4 x5 σ) : loopF [g1, g2, g3, g4, g5] body x1 x2 x3 x4 x5 σ :=
  show loopA [g1, g2, g3, g4, g5] body (x1, x2, x3, x4, x5, ()) σ from ⟨ι, fun i a σ => I i a.1 a.2.1 a.2.2.1 a.2.2.2.1 a.2.2.2.2.1 σ, μ, i, h0, fun i a σ hi => h i a.1 a.2.1 a.2.2.1 a.2.2.2.1 a.2.2.2.2.1 σ hi⟩
theorem join5 {g1 g2 g3 g4 g5 : Tag} {body : Fn [g1, g2, g3, g4, g5] → Prop} {rest : Fn [g1, g2, g3, g4, g5]} (R : g1.Ty → g2.Ty → g3.Ty → g4.Ty → g5.Ty → Mem → Prop) (h0 : body R) (h : ∀ (x1 : g1.Ty) (x2 : g2.Ty) (x3 : g3.Ty) (x4 : g4.Ty) (x5 : g5.Ty) σ, R x1 x2 x3 x4 x5 σ → rest x1 x2 x3 x4 x5 σ) : joinF [g1, g2, g3, g4, g5] body rest :=
  ⟨R, h0, fun a σ hi => h a.1 a.2.1 a.2.2.1 a.2.2.2.1 a.2.2.2.2.1 σ hi⟩
theorem loop6 {g1 g2 g3 g4 g5 g6 : Tag} {body : Fn [g1, g2, g3, g4, g5, g6] → Fn [g1, g2, g3, g4, g5, g6]} {x1 : g1.Ty} {x2 : g2.Ty} {x3 : g3.Ty} {x4 : g4.Ty} {x5 : g5.Ty} {x6 : g6.Ty} {σ : Mem} {ι : Type} (I : ι → g1.Ty → g2.Ty → g3.Ty → g4.Ty → g5.Ty → g6.Ty → Mem → Prop) (μ : ι → Nat) (i : ι) (h0 : I i x1 x2 x3 x4 x5 x6 σ)
    (h : ∀ i (x1 : g1.Ty) (x2 : g2.Ty) (x3 : g3.Ty) (x4 : g4.Ty) (x5 : g5.Ty) (x6 : g6.Ty) σ, I i x1 x2 x3 x4 x5 x6 σ → body (fun x1 x2 x3 x4 x5 x6 σ => Again (∃ j, I j x1 x2 x3 x4 x5 x6 σ ∧ μ j < μ i)) x1 x2 x3 x4 x5 x6 σ) : loopF [g1, g2, g3, g4, g5, g6] body x1 x2 x3 x4 x5 x6 σ :=
  show loopA [g1, g2, g3, g4, g5, g6] body (x1, x2, x3, x4, x5, x6, ()) σ from ⟨ι, fun i a σ => I i a.1 a.2.1 a.2.2.1 a.2.2.2.1 a.2.2.2.2.1 a.2.2.2.2.2.1 σ, μ, i, h0, fun i a σ hi => h i a.1 a.2.1 a.2.2.1 a.2.2.2.1 a.2.2.2.2.1 a.2.2.2.2.2.1 σ hi⟩
theorem join6 {g1 g2 g3 g4 g5 g6 : Tag} {body : Fn [g1, g2, g3, g4, g5, g6] → Prop} {rest : Fn [g1, g2, g3, g4, g5, g6]} (R : g1.Ty → g2.Ty → g3.Ty → g4.Ty → g5.Ty → g6.Ty → Mem → Prop) (h0 : body R) (h : ∀ (x1 : g1.Ty) (x2 : g2.Ty) (x3 : g3.Ty) (x4 : g4.Ty) (x5 : g5.Ty) (x6 : g6.Ty) σ, R x1 x2 x3 x4 x5 x6 σ → rest x1 x2 x3 x4 x5 x6 σ) : joinF [g1, g2, g3, g4, g5, g6] body rest :=
  ⟨R, h0, fun a σ hi => h a.1 a.2.1 a.2.2.1 a.2.2.2.1 a.2.2.2.2.1 a.2.2.2.2.2.1 σ hi⟩
theorem loop7 {g1 g2 g3 g4 g5 g6 g7 : Tag} {body : Fn [g1, g2, g3, g4, g5, g6, g7] → Fn [g1, g2, g3, g4, g5, g6, g7]} {x1 : g1.Ty} {x2 : g2.Ty} {x3 : g3.Ty} {x4 : g4.Ty} {x5 : g5.Ty} {x6 : g6.Ty} {x7 : g7.Ty} {σ : Mem} {ι : Type} (I : ι → g1.Ty → g2.Ty → g3.Ty → g4.Ty → g5.Ty → g6.Ty → g7.Ty → Mem → Prop) (μ : ι → Nat) (i : ι) (h0 : I i x1 x2 x3 x4 x5 x6 x7 σ)
    (h : ∀ i (x1 : g1.Ty) (x2 : g2.Ty) (x3 : g3.Ty) (x4 : g4.Ty) (x5 : g5.Ty) (x6 : g6.Ty) (x7 : g7.Ty) σ, I i x1 x2 x3 x4 x5 x6 x7 σ → body (fun x1 x2 x3 x4 x5 x6 x7 σ => Again (∃ j, I j x1 x2 x3 x4 x5 x6 x7 σ ∧ μ j < μ i)) x1 x2 x3 x4 x5 x6 x7 σ) : loopF [g1, g2, g3, g4, g5, g6, g7] body x1 x2 x3 x4 x5 x6 x7 σ :=
  show loopA [g1, g2, g3, g4, g5, g6, g7] body (x1, x2, x3, x4, x5, x6, x7, ()) σ from ⟨ι, fun i a σ => I i a.1 a.2.1 a.2.2.1 a.2.2.2.1 a.2.2.2.2.1 a.2.2.2.2.2.1 a.2.2.2.2.2.2.1 σ, μ, i, h0, fun i a σ hi => h i a.1 a.2.1 a.2.2.1 a.2.2.2.1 a.2.2.2.2.1 a.2.2.2.2.2.1 a.2.2.2.2.2.2.1 σ hi⟩
theorem join7 {g1 g2 g3 g4 g5 g6 g7 : Tag} {body : Fn [g1, g2, g3, g4, g5, g6, g7] → Prop} {rest : Fn [g1, g2, g3, g4, g5, g6, g7]} (R : g1.Ty → g2.Ty → g3.Ty → g4.Ty → g5.Ty → g6.Ty → g7.Ty → Mem → Prop) (h0 : body R) (h : ∀ (x1 : g1.Ty) (x2 : g2.Ty) (x3 : g3.Ty) (x4 : g4.Ty) (x5 : g5.Ty) (x6 : g6.Ty) (x7 : g7.Ty) σ, R x1 x2 x3 x4 x5 x6 x7 σ → rest x1 x2 x3 x4 x5 x6 x7 σ) : joinF [g1, g2, g3, g4, g5, g6, g7] body rest :=
  ⟨R, h0, fun a σ hi => h a.1 a.2.1 a.2.2.1 a.2.2.2.1 a.2.2.2.2.1 a.2.2.2.2.2.1 a.2.2.2.2.2.2.1 σ hi⟩
theorem loop8 {g1 g2 g3 g4 g5 g6 g7 g8 : Tag} {body : Fn [g1, g2, g3, g4, g5, g6, g7, g8] → Fn [g1, g2, g3, g4, g5, g6, g7, g8]} {x1 : g1.Ty} {x2 : g2.Ty} {x3 : g3.Ty} {x4 : g4.Ty} {x5 : g5.Ty} {x6 : g6.Ty} {x7 : g7.Ty} {x8 : g8.Ty} {σ : Mem} {ι : Type} (I : ι → g1.Ty → g2.Ty → g3.Ty → g4.Ty → g5.Ty → g6.Ty → g7.Ty → g8.Ty → Mem → Prop) (μ : ι → Nat) (i : ι) (h0 : I i x1 x2 x3 x4 x5 x6 x7 x8 σ)
    (h : ∀ i (x1 : g1.Ty) (x2 : g2.Ty) (x3 : g3.Ty) (x4 : g4.Ty) (x5 : g5.Ty) (x6 : g6.Ty) (x7 : g7.Ty) (x8 : g8.Ty) σ, I i x1 x2 x3 x4 x5 x6 x7 x8 σ → body (fun x1 x2 x3 x4 x5 x6 x7 x8 σ => Again (∃ j, I j x1 x2 x3 x4 x5 x6 x7 x8 σ ∧ μ j < μ i)) x1 x2 x3 x4 x5 x6 x7 x8 σ) : loopF [g1, g2, g3, g4, g5, g6, g7, g8] body x1 x2 x3 x4 x5 x6 x7 x8 σ :=
  show loopA [g1, g2, g3, g4, g5, g6, g7, g8] body (x1, x2, x3, x4, x5, x6, x7, x8, ()) σ from ⟨ι, fun i a σ => I i a.1 a.2.1 a.2.2.1 a.2.2.2.1 a.2.2.2.2.1 a.2.2.2.2.2.1 a.2.2.2.2.2.2.1 a.2.2.2.2.2.2.2.1 σ, μ, i, h0, fun i a σ hi => h i a.1 a.2.1 a.2.2.1 a.2.2.2.1 a.2.2.2.2.1 a.2.2.2.2.2.1 a.2.2.2.2.2.2.1 a.2.2.2.2.2.2.2.1 σ hi⟩
theorem join8 {g1 g2 g3 g4 g5 g6 g7 g8 : Tag} {body : Fn [g1, g2, g3, g4, g5, g6, g7, g8] → Prop} {rest : Fn [g1, g2, g3, g4, g5, g6, g7, g8]} (R : g1.Ty → g2.Ty → g3.Ty → g4.Ty → g5.Ty → g6.Ty → g7.Ty → g8.Ty → Mem → Prop) (h0 : body R) (h : ∀ (x1 : g1.Ty) (x2 : g2.Ty) (x3 : g3.Ty) (x4 : g4.Ty) (x5 : g5.Ty) (x6 : g6.Ty) (x7 : g7.Ty) (x8 : g8.Ty) σ, R x1 x2 x3 x4 x5 x6 x7 x8 σ → rest x1 x2 x3 x4 x5 x6 x7 x8 σ) : joinF [g1, g2, g3, g4, g5, g6, g7, g8] body rest :=
  ⟨R, h0, fun a σ hi => h a.1 a.2.1 a.2.2.1 a.2.2.2.1 a.2.2.2.2.1 a.2.2.2.2.2.1 a.2.2.2.2.2.2.1 a.2.2.2.2.2.2.2.1 σ hi⟩
theorem loop9 {g1 g2 g3 g4 g5 g6 g7 g8 g9 : Tag} {body : Fn [g1, g2, g3, g4, g5, g6, g7, g8, g9] → Fn [g1, g2, g3, g4, g5, g6, g7, g8, g9]} {x1 : g1.Ty} {x2 : g2.Ty} {x3 : g3.Ty} {x4 : g4.Ty} {x5 : g5.Ty} {x6 : g6.Ty} {x7 : g7.Ty} {x8 : g8.Ty} {x9 : g9.Ty} {σ : Mem} {ι : Type} (I : ι → g1.Ty → g2.Ty → g3.Ty → g4.Ty → g5.Ty → g6.Ty → g7.Ty → g8.Ty → g9.Ty → Mem → Prop) (μ : ι → Nat) (i : ι) (h0 : I i x1 x2 x3 x4 x5 x6 x7 x8 x9 σ)
    (h : ∀ i (x1 : g1.Ty) (x2 : g2.Ty) (x3 : g3.Ty) (x4 : g4.Ty) (x5 : g5.Ty) (x6 : g6.Ty) (x7 : g7.Ty) (x8 : g8.Ty) (x9 : g9.Ty) σ, I i x1 x2 x3 x4 x5 x6 x7 x8 x9 σ → body (fun x1 x2 x3 x4 x5 x6 x7 x8 x9 σ => Again (∃ j, I j x1 x2 x3 x4 x5 x6 x7 x8 x9 σ ∧ μ j < μ i)) x1 x2 x3 x4 x5 x6 x7 x8 x9 σ) : loopF [g1, g2, g3, g4, g5, g6, g7, g8, g9] body x1 x2 x3 x4 x5 x6 x7 x8 x9 σ :=
  show loopA [g1, g2, g3, g4, g5, g6, g7, g8, g9] body (x1, x2, x3, x4, x5, x6, x7, x8, x9, ()) σ from ⟨ι, fun i a σ => I i a.1 a.2.1 a.2.2.1 a.2.2.2.1 a.2.2.2.2.1 a.2.2.2.2.2.1 a.2.2.2.2.2.2.1 a.2.2.2.2.2.2.2.1 a.2.2.2.2.2.2.2.2.1 σ, μ, i, h0, fun i a σ hi => h i a.1 a.2.1 a.2.2.1 a.2.2.2.1 a.2.2.2.2.1 a.2.2.2.2.2.1 a.2.2.2.2.2.2.1 a.2.2.2.2.2.2.2.1 a.2.2.2.2.2.2.2.2.1 σ hi⟩
theorem join9 {g1 g2 g3 g4 g5 g6 g7 g8 g9 : Tag} {body : Fn [g1, g2, g3, g4, g5, g6, g7, g8, g9] → Prop} {rest : Fn [g1, g2, g3, g4, g5, g6, g7, g8, g9]} (R : g1.Ty → g2.Ty → g3.Ty → g4.Ty → g5.Ty → g6.Ty → g7.Ty → g8.Ty → g9.Ty → Mem → Prop) (h0 : body R) (h : ∀ (x1 : g1.Ty) (x2 : g2.Ty) (x3 : g3.Ty) (x4 : g4.Ty) (x5 : g5.Ty) (x6 : g6.Ty) (x7 : g7.Ty) (x8 : g8.Ty) (x9 : g9.Ty) σ, R x1 x2 x3 x4 x5 x6 x7 x8 x9 σ → rest x1 x2 x3 x4 x5 x6 x7 x8 x9 σ) : joinF [g1, g2, g3, g4, g5, g6, g7, g8, g9] body rest :=
  ⟨R, h0, fun a σ hi => h a.1 a.2.1 a.2.2.1 a.2.2.2.1 a.2.2.2.2.1 a.2.2.2.2.2.1 a.2.2.2.2.2.2.1 a.2.2.2.2.2.2.2.1 a.2.2.2.2.2.2.2.2.1 σ hi⟩
theorem loop10 {g1 g2 g3 g4 g5 g6 g7 g8 g9 g10 : Tag} {body : Fn [g1, g2, g3, g4, g5, g6, g7, g8, g9, g10] → Fn [g1, g2, g3, g4, g5, g6, g7, g8, g9, g10]} {x1 : g1.Ty} {x2 : g2.Ty} {x3 : g3.Ty} {x4 : g4.Ty} {x5 : g5.Ty} {x6 : g6.Ty} {x7 : g7.Ty} {x8 : g8.Ty} {x9 : g9.Ty} {x10 : g10.Ty} {σ : Mem} {ι : Type} (I : ι → g1.Ty → g2.Ty → g3.Ty → g4.Ty → g5.Ty → g6.Ty → g7.Ty → g8.Ty → g9.Ty → g10.Ty → Mem → Prop) (μ : ι → Nat) (i : ι) (h0 : I i x1 x2 x3 x4 x5 x6 x7 x8 x9 x10 σ)
    (h : ∀ i (x1 : g1.Ty) (x2 : g2.Ty) (x3 : g3.Ty) (x4 : g4.Ty) (x5 : g5.Ty) (x6 : g6.Ty) (x7 : g7.Ty) (x8 : g8.Ty) (x9 : g9.Ty) (x10 : g10.Ty) σ, I i x1 x2 x3 x4 x5 x6 x7 x8 x9 x10 σ → body (fun x1 x2 x3 x4 x5 x6 x7 x8 x9 x10 σ => Again (∃ j, I j x1 x2 x3 x4 x5 x6 x7 x8 x9 x10 σ ∧ μ j < μ i)) x1 x2 x3 x4 x5 x6 x7 x8 x9 x10 σ) : loopF [g1, g2, g3, g4, g5, g6, g7, g8, g9, g10] body x1 x2 x3 x4 x5 x6 x7 x8 x9 x10 σ :=
  show loopA [g1, g2, g3, g4, g5, g6, g7, g8, g9, g10] body (x1, x2, x3, x4, x5, x6, x7, x8, x9, x10, ()) σ from ⟨ι, fun i a σ => I i a.1 a.2.1 a.2.2.1 a.2.2.2.1 a.2.2.2.2.1 a.2.2.2.2.2.1 a.2.2.2.2.2.2.1 a.2.2.2.2.2.2.2.1 a.2.2.2.2.2.2.2.2.1 a.2.2.2.2.2.2.2.2.2.1 σ, μ, i, h0, fun i a σ hi => h i a.1 a.2.1 a.2.2.1 a.2.2.2.1 a.2.2.2.2.1 a.2.2.2.2.2.1 a.2.2.2.2.2.2.1 a.2.2.2.2.2.2.2.1 a.2.2.2.2.2.2.2.2.1 a.2.2.2.2.2.2.2.2.2.1 σ hi⟩
theorem join10 {g1 g2 g3 g4 g5 g6 g7 g8 g9 g10 : Tag} {body : Fn [g1, g2, g3, g4, g5, g6, g7, g8, g9, g10] → Prop} {rest : Fn [g1, g2, g3, g4, g5, g6, g7, g8, g9, g10]} (R : g1.Ty → g2.Ty → g3.Ty → g4.Ty → g5.Ty → g6.Ty → g7.Ty → g8.Ty → g9.Ty → g10.Ty → Mem → Prop) (h0 : body R) (h : ∀ (x1 : g1.Ty) (x2 : g2.Ty) (x3 : g3.Ty) (x4 : g4.Ty) (x5 : g5.Ty) (x6 : g6.Ty) (x7 : g7.Ty) (x8 : g8.Ty) (x9 : g9.Ty) (x10 : g10.Ty) σ, R x1 x2 x3 x4 x5 x6 x7 x8 x9 x10 σ → rest x1 x2 x3 x4 x5 x6 x7 x8 x9 x10 σ) : joinF [g1, g2, g3, g4, g5, g6, g7, g8, g9, g10] body rest :=
  ⟨R, h0, fun a σ hi => h a.1 a.2.1 a.2.2.1 a.2.2.2.1 a.2.2.2.2.1 a.2.2.2.2.2.1 a.2.2.2.2.2.2.1 a.2.2.2.2.2.2.2.1 a.2.2.2.2.2.2.2.2.1 a.2.2.2.2.2.2.2.2.2.1 σ hi⟩
theorem loop11 {g1 g2 g3 g4 g5 g6 g7 g8 g9 g10 g11 : Tag} {body : Fn [g1, g2, g3, g4, g5, g6, g7, g8, g9, g10, g11] → Fn [g1, g2, g3, g4, g5, g6, g7, g8, g9, g10, g11]} {x1 : g1.Ty} {x2 : g2.Ty} {x3 : g3.Ty} {x4 : g4.Ty} {x5 : g5.Ty} {x6 : g6.Ty} {x7 : g7.Ty} {x8 : g8.Ty} {x9 : g9.Ty} {x10 : g10.Ty} {x11 : g11.Ty} {σ : Mem} {ι : Type} (I : ι → g1.Ty → g2.Ty → g3.Ty → g4.Ty → g5.Ty → g6.Ty → g7.Ty → g8.Ty → g9.Ty → g10.Ty → g11.Ty → Mem → Prop) (μ : ι → Nat) (i : ι) (h0 : I i x1 x2 x3 x4 x5 x6 x7 x8 x9 x10 x11 σ)
    (h : ∀ i (x1 : g1.Ty) (x2 : g2.Ty) (x3 : g3.Ty) (x4 : g4.Ty) (x5 : g5.Ty) (x6 : g6.Ty) (x7 : g7.Ty) (x8 : g8.Ty) (x9 : g9.Ty) (x10 : g10.Ty) (x11 : g11.Ty) σ, I i x1 x2 x3 x4 x5 x6 x7 x8 x9 x10 x11 σ → body (fun x1 x2 x3 x4 x5 x6 x7 x8 x9 x10 x11 σ => Again (∃ j, I j x1 x2 x3 x4 x5 x6 x7 x8 x9 x10 x11 σ ∧ μ j < μ i)) x1 x2 x3 x4 x5 x6 x7 x8 x9 x10 x11 σ) : loopF [g1, g2, g3, g4, g5, g6, g7, g8, g9, g10, g11] body x1 x2 x3 x4 x5 x6 x7 x8 x9 x10 x11 σ :=
  show loopA [g1, g2, g3, g4, g5, g6, g7, g8, g9, g10, g11] body (x1, x2, x3, x4, x5, x6, x7, x8, x9, x10, x11, ()) σ from ⟨ι, fun i a σ => I i a.1 a.2.1 a.2.2.1 a.2.2.2.1 a.2.2.2.2.1 a.2.2.2.2.2.1 a.2.2.2.2.2.2.1 a.2.2.2.2.2.2.2.1 a.2.2.2.2.2.2.2.2.1 a.2.2.2.2.2.2.2.2.2.1 a.2.2.2.2.2.2.2.2.2.2.1 σ, μ, i, h0, fun i a σ hi => h i a.1 a.2.1 a.2.2.1 a.2.2.2.1 a.2.2.2.2.1 a.2.2.2.2.2.1 a.2.2.2.2.2.2.1 a.2.2.2.2.2.2.2.1 a.2.2.2.2.2.2.2.2.1 a.2.2.2.2.2.2.2.2.2.1 a.2.2.2.2.2.2.2.2.2.2.1 σ hi⟩
theorem join11 {g1 g2 g3 g4 g5 g6 g7 g8 g9 g10 g11 : Tag} {body : Fn [g1, g2, g3, g4, g5, g6, g7, g8, g9, g10, g11] → Prop} {rest : Fn [g1, g2, g3, g4, g5, g6, g7, g8, g9, g10, g11]} (R : g1.Ty → g2.Ty → g3.Ty → g4.Ty → g5.Ty → g6.Ty → g7.Ty → g8.Ty → g9.Ty → g10.Ty → g11.Ty → Mem → Prop) (h0 : body R) (h : ∀ (x1 : g1.Ty) (x2 : g2.Ty) (x3 : g3.Ty) (x4 : g4.Ty) (x5 : g5.Ty) (x6 : g6.Ty) (x7 : g7.Ty) (x8 : g8.Ty) (x9 : g9.Ty) (x10 : g10.Ty) (x11 : g11.Ty) σ, R x1 x2 x3 x4 x5 x6 x7 x8 x9 x10 x11 σ → rest x1 x2 x3 x4 x5 x6 x7 x8 x9 x10 x11 σ) : joinF [g1, g2, g3, g4, g5, g6, g7, g8, g9, g10, g11] body rest :=
  ⟨R, h0, fun a σ hi => h a.1 a.2.1 a.2.2.1 a.2.2.2.1 a.2.2.2.2.1 a.2.2.2.2.2.1 a.2.2.2.2.2.2.1 a.2.2.2.2.2.2.2.1 a.2.2.2.2.2.2.2.2.1 a.2.2.2.2.2.2.2.2.2.1 a.2.2.2.2.2.2.2.2.2.2.1 σ hi⟩
theorem loop12 {g1 g2 g3 g4 g5 g6 g7 g8 g9 g10 g11 g12 : Tag} {body : Fn [g1, g2, g3, g4, g5, g6, g7, g8, g9, g10, g11, g12] → Fn [g1, g2, g3, g4, g5, g6, g7, g8, g9, g10, g11, g12]} {x1 : g1.Ty} {x2 : g2.Ty} {x3 : g3.Ty} {x4 : g4.Ty} {x5 : g5.Ty} {x6 : g6.Ty} {x7 : g7.Ty} {x8 : g8.Ty} {x9 : g9.Ty} {x10 : g10.Ty} {x11 : g11.Ty} {x12 : g12.Ty} {σ : Mem} {ι : Type} (I : ι → g1.Ty → g2.Ty → g3.Ty → g4.Ty → g5.Ty → g6.Ty → g7.Ty → g8.Ty → g9.Ty → g10.Ty → g11.Ty → g12.Ty → Mem → Prop) (μ : ι → Nat) (i : ι) (h0 : I i x1 x2 x3 x4 x5 x6 x7 x8 x9 x10 x11 x12 σ)
    (h : ∀ i (x1 : g1.Ty) (x2 : g2.Ty) (x3 : g3.Ty) (x4 : g4.Ty) (x5 : g5.Ty) (x6 : g6.Ty) (x7 : g7.Ty) (x8 : g8.Ty) (x9 : g9.Ty) (x10 : g10.Ty) (x11 : g11.Ty) (x12 : g12.Ty) σ, I i x1 x2 x3 x4 x5 x6 x7 x8 x9 x10 x11 x12 σ → body (fun x1 x2 x3 x4 x5 x6 x7 x8 x9 x10 x11 x12 σ => Again (∃ j, I j x1 x2 x3 x4 x5 x6 x7 x8 x9 x10 x11 x12 σ ∧ μ j < μ i)) x1 x2 x3 x4 x5 x6 x7 x8 x9 x10 x11 x12 σ) : loopF [g1, g2, g3, g4, g5, g6, g7, g8, g9, g10, g11, g12] body x1 x2 x3 x4 x5 x6 x7 x8 x9 x10 x11 x12 σ :=
  show loopA [g1, g2, g3, g4, g5, g6, g7, g8, g9, g10, g11, g12] body (x1, x2, x3, x4, x5, x6, x7, x8, x9, x10, x11, x12, ()) σ from ⟨ι, fun i a σ => I i a.1 a.2.1 a.2.2.1 a.2.2.2.1 a.2.2.2.2.1 a.2.2.2.2.2.1 a.2.2.2.2.2.2.1 a.2.2.2.2.2.2.2.1 a.2.2.2.2.2.2.2.2.1 a.2.2.2.2.2.2.2.2.2.1 a.2.2.2.2.2.2.2.2.2.2.1 a.2.2.2.2.2.2.2.2.2.2.2.1 σ, μ, i, h0, fun i a σ hi => h i a.1 a.2.1 a.2.2.1 a.2.2.2.1 a.2.2.2.2.1 a.2.2.2.2.2.1 a.2.2.2.2.2.2.1 a.2.2.2.2.2.2.2.1 a.2.2.2.2.2.2.2.2.1 a.2.2.2.2.2.2.2.2.2.1 a.2.2.2.2.2.2.2.2.2.2.1 a.2.2.2.2.2.2.2.2.2.2.2.1 σ hi⟩
theorem join12 {g1 g2 g3 g4 g5 g6 g7 g8 g9 g10 g11 g12 : Tag} {body : Fn [g1, g2, g3, g4, g5, g6, g7, g8, g9, g10, g11, g12] → Prop} {rest : Fn [g1, g2, g3, g4, g5, g6, g7, g8, g9, g10, g11, g12]} (R : g1.Ty → g2.Ty → g3.Ty → g4.Ty → g5.Ty → g6.Ty → g7.Ty → g8.Ty → g9.Ty → g10.Ty → g11.Ty → g12.Ty → Mem → Prop) (h0 : body R) (h : ∀ (x1 : g1.Ty) (x2 : g2.Ty) (x3 : g3.Ty) (x4 : g4.Ty) (x5 : g5.Ty) (x6 : g6.Ty) (x7 : g7.Ty) (x8 : g8.Ty) (x9 : g9.Ty) (x10 : g10.Ty) (x11 : g11.Ty) (x12 : g12.Ty) σ, R x1 x2 x3 x4 x5 x6 x7 x8 x9 x10 x11 x12 σ → rest x1 x2 x3 x4 x5 x6 x7 x8 x9 x10 x11 x12 σ) : joinF [g1, g2, g3, g4, g5, g6, g7, g8, g9, g10, g11, g12] body rest :=
  ⟨R, h0, fun a σ hi => h a.1 a.2.1 a.2.2.1 a.2.2.2.1 a.2.2.2.2.1 a.2.2.2.2.2.1 a.2.2.2.2.2.2.1 a.2.2.2.2.2.2.2.1 a.2.2.2.2.2.2.2.2.1 a.2.2.2.2.2.2.2.2.2.1 a.2.2.2.2.2.2.2.2.2.2.1 a.2.2.2.2.2.2.2.2.2.2.2.1 σ hi⟩
theorem loop13 {g1 g2 g3 g4 g5 g6 g7 g8 g9 g10 g11 g12 g13 : Tag} {body : Fn [g1, g2, g3, g4, g5, g6, g7, g8, g9, g10, g11, g12, g13] → Fn [g1, g2, g3, g4, g5, g6, g7, g8, g9, g10, g11, g12, g13]} {x1 : g1.Ty} {x2 : g2.Ty} {x3 : g3.Ty} {x4 : g4.Ty} {x5 : g5.Ty} {x6 : g6.Ty} {x7 : g7.Ty} {x8 : g8.Ty} {x9 : g9.Ty} {x10 : g10.Ty} {x11 : g11.Ty} {x12 : g12.Ty} {x13 : g13.Ty} {σ : Mem} {ι : Type} (I : ι → g1.Ty → g2.Ty → g3.Ty → g4.Ty → g5.Ty → g6.Ty → g7.Ty → g8.Ty → g9.Ty → g10.Ty → g11.Ty → g12.Ty → g13.Ty → Mem → Prop) (μ : ι → Nat) (i : ι) (h0 : I i x1 x2 x3 x4 x5 x6 x7 x8 x9 x10 x11 x12 x13 σ)
    (h : ∀ i (x1 : g1.Ty) (x2 : g2.Ty) (x3 : g3.Ty) (x4 : g4.Ty) (x5 : g5.Ty) (x6 : g6.Ty) (x7 : g7.Ty) (x8 : g8.Ty) (x9 : g9.Ty) (x10 : g10.Ty) (x11 : g11.Ty) (x12 : g12.Ty) (x13 : g13.Ty) σ, I i x1 x2 x3 x4 x5 x6 x7 x8 x9 x10 x11 x12 x13 σ → body (fun x1 x2 x3 x4 x5 x6 x7 x8 x9 x10 x11 x12 x13 σ => Again (∃ j, I j x1 x2 x3 x4 x5 x6 x7 x8 x9 x10 x11 x12 x13 σ ∧ μ j < μ i)) x1 x2 x3 x4 x5 x6 x7 x8 x9 x10 x11 x12 x13 σ) : loopF [g1, g2, g3, g4, g5, g6, g7, g8, g9, g10, g11, g12, g13] body x1 x2 x3 x4 x5 x6 x7 x8 x9 x10 x11 x12 x13 σ :=
  show loopA [g1, g2, g3, g4, g5, g6, g7, g8, g9, g10, g11, g12, g13] body (x1, x2, x3, x4, x5, x6, x7, x8, x9, x10, x11, x12, x13, ()) σ from ⟨ι, fun i a σ => I i a.1 a.2.1 a.2.2.1 a.2.2.2.1 a.2.2.2.2.1 a.2.2.2.2.2.1 a.2.2.2.2.2.2.1 a.2.2.2.2.2.2.2.1 a.2.2.2.2.2.2.2.2.1 a.2.2.2.2.2.2.2.2.2.1 a.2.2.2.2.2.2.2.2.2.2.1 a.2.2.2.2.2.2.2.2.2.2.2.1 a.2.2.2.2.2.2.2.2.2.2.2.2.1 σ, μ, i, h0, fun i a σ hi => h i a.1 a.2.1 a.2.2.1 a.2.2.2.1 a.2.2.2.2.1 a.2.2.2.2.2.1 a.2.2.2.2.2.2.1 a.2.2.2.2.2.2.2.1 a.2.2.2.2.2.2.2.2.1 a.2.2.2.2.2.2.2.2.2.1 a.2.2.2.2.2.2.2.2.2.2.1 a.2.2.2.2.2.2.2.2.2.2.2.1 a.2.2.2.2.2.2.2.2.2.2.2.2.1 σ hi⟩
theorem join13 {g1 g2 g3 g4 g5 g6 g7 g8 g9 g10 g11 g12 g13 : Tag} {body : Fn [g1, g2, g3, g4, g5, g6, g7, g8, g9, g10, g11, g12, g13] → Prop} {rest : Fn [g1, g2, g3, g4, g5, g6, g7, g8, g9, g10, g11, g12, g13]} (R : g1.Ty → g2.Ty → g3.Ty → g4.Ty → g5.Ty → g6.Ty → g7.Ty → g8.Ty → g9.Ty → g10.Ty → g11.Ty → g12.Ty → g13.Ty → Mem → Prop) (h0 : body R) (h : ∀ (x1 : g1.Ty) (x2 : g2.Ty) (x3 : g3.Ty) (x4 : g4.Ty) (x5 : g5.Ty) (x6 : g6.Ty) (x7 : g7.Ty) (x8 : g8.Ty) (x9 : g9.Ty) (x10 : g10.Ty) (x11 : g11.Ty) (x12 : g12.Ty) (x13 : g13.Ty) σ, R x1 x2 x3 x4 x5 x6 x7 x8 x9 x10 x11 x12 x13 σ → rest x1 x2 x3 x4 x5 x6 x7 x8 x9 x10 x11 x12 x13 σ) : joinF [g1, g2, g3, g4, g5, g6, g7, g8, g9, g10, g11, g12, g13] body rest :=
  ⟨R, h0, fun a σ hi => h a.1 a.2.1 a.2.2.1 a.2.2.2.1 a.2.2.2.2.1 a.2.2.2.2.2.1 a.2.2.2.2.2.2.1 a.2.2.2.2.2.2.2.1 a.2.2.2.2.2.2.2.2.1 a.2.2.2.2.2.2.2.2.2.1 a.2.2.2.2.2.2.2.2.2.2.1 a.2.2.2.2.2.2.2.2.2.2.2.1 a.2.2.2.2.2.2.2.2.2.2.2.2.1 σ hi⟩
theorem loop14 {g1 g2 g3 g4 g5 g6 g7 g8 g9 g10 g11 g12 g13 g14 : Tag} {body : Fn [g1, g2, g3, g4, g5, g6, g7, g8, g9, g10, g11, g12, g13, g14] → Fn [g1, g2, g3, g4, g5, g6, g7, g8, g9, g10, g11, g12, g13, g14]} {x1 : g1.Ty} {x2 : g2.Ty} {x3 : g3.Ty} {x4 : g4.Ty} {x5 : g5.Ty} {x6 : g6.Ty} {x7 : g7.Ty} {x8 : g8.Ty} {x9 : g9.Ty} {x10 : g10.Ty} {x11 : g11.Ty} {x12 : g12.Ty} {x13 : g13.Ty} {x14 : g14.Ty} {σ : Mem} {ι : Type} (I : ι → g1.Ty → g2.Ty → g3.Ty → g4.Ty → g5.Ty → g6.Ty → g7.Ty → g8.Ty → g9.Ty → g10.Ty → g11.Ty → g12.Ty → g13.Ty → g14.Ty → Mem → Prop) (μ : ι → Nat) (i : ι) (h0 : I i x1 x2 x3 x4 x5 x6 x7 x8 x9 x10 x11 x12 x13 x14 σ)
    (h : ∀ i (x1 : g1.Ty) (x2 : g2.Ty) (x3 : g3.Ty) (x4 : g4.Ty) (x5 : g5.Ty) (x6 : g6.Ty) (x7 : g7.Ty) (x8 : g8.Ty) (x9 : g9.Ty) (x10 : g10.Ty) (x11 : g11.Ty) (x12 : g12.Ty) (x13 : g13.Ty) (x14 : g14.Ty) σ, I i x1 x2 x3 x4 x5 x6 x7 x8 x9 x10 x11 x12 x13 x14 σ → body (fun x1 x2 x3 x4 x5 x6 x7 x8 x9 x10 x11 x12 x13 x14 σ => Again (∃ j, I j x1 x2 x3 x4 x5 x6 x7 x8 x9 x10 x11 x12 x13 x14 σ ∧ μ j < μ i)) x1 x2 x3 x4 x5 x6 x7 x8 x9 x10 x11 x12 x13 x14 σ) : loopF [g1, g2, g3, g4, g5, g6, g7, g8, g9, g10, g11, g12, g13, g14] body x1 x2 x3 x4 x5 x6 x7 x8 x9 x10 x11 x12 x13 x14 σ :=
  show loopA [g1, g2, g3, g4, g5, g6, g7, g8, g9, g10, g11, g12, g13, g14] body (x1, x2, x3, x4, x5, x6, x7, x8, x9, x10, x11, x12, x13, x14, ()) σ from ⟨ι, fun i a σ => I i a.1 a.2.1 a.2.2.1 a.2.2.2.1 a.2.2.2.2.1 a.2.2.2.2.2.1 a.2.2.2.2.2.2.1 a.2.2.2.2.2.2.2.1 a.2.2.2.2.2.2.2.2.1 a.2.2.2.2.2.2.2.2.2.1 a.2.2.2.2.2.2.2.2.2.2.1 a.2.2.2.2.2.2.2.2.2.2.2.1 a.2.2.2.2.2.2.2.2.2.2.2.2.1 a.2.2.2.2.2.2.2.2.2.2.2.2.2.1 σ, μ, i, h0, fun i a σ hi => h i a.1 a.2.1 a.2.2.1 a.2.2.2.1 a.2.2.2.2.1 a.2.2.2.2.2.1 a.2.2.2.2.2.2.1 a.2.2.2.2.2.2.2.1 a.2.2.2.2.2.2.2.2.1 a.2.2.2.2.2.2.2.2.2.1 a.2.2.2.2.2.2.2.2.2.2.1 a.2.2.2.2.2.2.2.2.2.2.2.1 a.2.2.2.2.2.2.2.2.2.2.2.2.1 a.2.2.2.2.2.2.2.2.2.2.2.2.2.1 σ hi⟩
theorem join14 {g1 g2 g3 g4 g5 g6 g7 g8 g9 g10 g11 g12 g13 g14 : Tag} {body : Fn [g1, g2, g3, g4, g5, g6, g7, g8, g9, g10, g11, g12, g13, g14] → Prop} {rest : Fn [g1, g2, g3, g4, g5, g6, g7, g8, g9, g10, g11, g12, g13, g14]} (R : g1.Ty → g2.Ty → g3.Ty → g4.Ty → g5.Ty → g6.Ty → g7.Ty → g8.Ty → g9.Ty → g10.Ty → g11.Ty → g12.Ty → g13.Ty → g14.Ty → Mem → Prop) (h0 : body R) (h : ∀ (x1 : g1.Ty) (x2 : g2.Ty) (x3 : g3.Ty) (x4 : g4.Ty) (x5 : g5.Ty) (x6 : g6.Ty) (x7 : g7.Ty) (x8 : g8.Ty) (x9 : g9.Ty) (x10 : g10.Ty) (x11 : g11.Ty) (x12 : g12.Ty) (x13 : g13.Ty) (x14 : g14.Ty) σ, R x1 x2 x3 x4 x5 x6 x7 x8 x9 x10 x11 x12 x13 x14 σ → rest x1 x2 x3 x4 x5 x6 x7 x8 x9 x10 x11 x12 x13 x14 σ) : joinF [g1, g2, g3, g4, g5, g6, g7, g8, g9, g10, g11, g12, g13, g14] body rest :=
  ⟨R, h0, fun a σ hi => h a.1 a.2.1 a.2.2.1 a.2.2.2.1 a.2.2.2.2.1 a.2.2.2.2.2.1 a.2.2.2.2.2.2.1 a.2.2.2.2.2.2.2.1 a.2.2.2.2.2.2.2.2.1 a.2.2.2.2.2.2.2.2.2.1 a.2.2.2.2.2.2.2.2.2.2.1 a.2.2.2.2.2.2.2.2.2.2.2.1 a.2.2.2.2.2.2.2.2.2.2.2.2.1 a.2.2.2.2.2.2.2.2.2.2.2.2.2.1 σ hi⟩
end Go.Vit
