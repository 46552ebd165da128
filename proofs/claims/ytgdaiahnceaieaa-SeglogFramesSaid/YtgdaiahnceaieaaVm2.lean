/- The library. -/
import Derived.Test.YtgdaiahnceaieaaVm4
import Derived.Attr
set_option linter.unusedVariables false
set_option linter.unusedSimpArgs false

section
namespace Go.Vit

inductive Tag where
  | i (k : IntKind)
  | b
  | s
  | v
@[reducible] def Tag.Ty : Tag → Type
  | .i _ => Int
  | .b => Bool
  | .s => ByteArray
  | .v => AV
def Tag.inj : (g : Tag) → g.Ty → AV
  | .i k, n => .int k n
  | .b, x => .bool x
  | .s, x => .str x
  | .v, x => x
def kindNo : IntKind → Nat
  | .i8 => 0 | .i16 => 1 | .i32 => 2 | .i64 => 3 | .u8 => 4 | .u16 => 5 | .u32 => 6 | .u64 => 7
def kindEq (a b : IntKind) : Bool := Nat.beq (kindNo a) (kindNo b)
theorem kindEq_eq {a b : IntKind} (h : kindEq a b = true) : a = b := by
  cases a <;> cases b <;> first | rfl | exact absurd h (by decide)
def ifB (b : Bool) (x y : Prop) : Prop :=
  match b with
  | true => x
  | false => y
theorem ifB_and {b : Bool} {x : Prop} (h : ifB b x False) : b = true ∧ x := by
  cases b with
  | true => exact ⟨rfl, h⟩
  | false => exact h.elim
def castI (k : IntKind) (v : AV) (K : Int → Prop) : Prop :=
  match v with
  | .int k' n => ifB (kindEq k k') (K n) False
  | _ => False
def castB (v : AV) (K : Bool → Prop) : Prop :=
  match v with
  | .bool b => K b
  | _ => False
def castS (v : AV) (K : ByteArray → Prop) : Prop :=
  match v with
  | .str s => K s
  | _ => False
def castW (g : Tag) (v : AV) (K : g.Ty → Prop) : Prop :=
  match g, K with
  | .i k, K => castI k v K
  | .b, K => castB v K
  | .s, K => castS v K
  | .v, K => K v
theorem castW_spec {g : Tag} {v : AV} {K : g.Ty → Prop} (h : castW g v K) : ∃ x, v = g.inj x ∧ K x := by
  cases g with
  | i k =>
    simp only [castW] at h
    unfold castI at h
    split at h
    · obtain ⟨h1, h2⟩ := ifB_and h
      have := kindEq_eq h1
      subst this
      exact ⟨_, rfl, h2⟩
    · exact h.elim
  | b =>
    simp only [castW] at h
    unfold castB at h
    split at h
    · exact ⟨_, rfl, h⟩
    · exact h.elim
  | s =>
    simp only [castW] at h
    unfold castS at h
    split at h
    · exact ⟨_, rfl, h⟩
    · exact h.elim
  | v => exact ⟨v, rfl, h⟩
def letW {α : Type} (a : α) (K : α → Prop) : Prop := K a
def wrW (k : IntKind) (n : Int) (K : Int → Prop) : Prop := K (k.wrap n)
def quoW (k : IntKind) (a b : Int) (K : Int → Prop) : Prop := b ≠ 0 ∧ K (k.wrap (a.tdiv b))
def remW (a b : Int) (K : Int → Prop) : Prop := b ≠ 0 ∧ K (a.tmod b)
def pow2 (n : Nat) : Int := ((2 ^ n : Nat) : Int)
def shAmt (b : Int) (bits : Nat) : Nat := if b.toNat ≤ bits then b.toNat else bits
def shlW (k : IntKind) (a b : Int) (K : Int → Prop) : Prop := 0 ≤ b ∧ K (k.wrap (a * pow2 (shAmt b k.bits)))
def shrW (k : IntKind) (a b : Int) (K : Int → Prop) : Prop := 0 ≤ b ∧ K (a / pow2 (shAmt b k.bits))
theorem pow2_eq (n : Nat) : pow2 n = 2 ^ n := by simp [pow2]
theorem pow2_pos (n : Nat) : 0 < pow2 n := by unfold pow2; exact Int.ofNat_lt.2 (Nat.pow_pos (by decide))
def shcAmt (bits : Nat) : Int → Option Nat
  | .ofNat n => some (if n ≤ bits then n else bits)
  | .negSucc _ => none
def shlcW (k : IntKind) (a n : Int) (K : Int → Prop) : Prop :=
  match shcAmt k.bits n with
  | some n => wrW k (a * pow2 n) K
  | none => False
def shrcW (k : IntKind) (a n : Int) (K : Int → Prop) : Prop :=
  match shcAmt k.bits n with
  | some n => K (a / pow2 n)
  | none => False
def AOpd.lit : AOpd → Option Int
  | .const (.int _ n) => some n
  | _ => none
theorem shInt_shl {k : IntKind} {a b : Int} (h : 0 ≤ b) : shInt .shl k a b = some (.int k (k.wrap (a * pow2 (shAmt b k.bits)))) := by
  simp only [shInt]
  rw [if_neg (by omega), pow2_eq, shAmt, ← Nat.min_def]
theorem shInt_shr {k : IntKind} {a b : Int} (h : 0 ≤ b) : shInt .shr k a b = some (.int k (a / pow2 (shAmt b k.bits))) := by
  simp only [shInt]
  rw [if_neg (by omega), ← Int.fdiv_eq_ediv_of_nonneg _ (Int.le_of_lt (pow2_pos _)), pow2_eq, shAmt, ← Nat.min_def]
theorem shcAmt_spec {bits n : Nat} {b : Int} (h : shcAmt bits b = some n) : 0 ≤ b ∧ shAmt b bits = n := by
  cases b with
  | ofNat m =>
    simp only [shcAmt, Option.some.injEq] at h
    exact ⟨Int.natCast_nonneg m, h⟩
  | negSucc m => simp [shcAmt] at h

def strW (op : BinOp) (a b : ByteArray) (K : AV → Prop) : Prop :=
  match op with
  | .add => a.size + b.size ≤ 9223372036854775807 ∧ K (.str (a ++ b))
  | .eql => K (.bool (decide (a = b)))
  | .neq => K (.bool (decide (a ≠ b)))
  | .lss => K (.bool (Op.bytesLess (bytesL a) (bytesL b)))
  | .leq => K (.bool (Op.bytesLess (bytesL a) (bytesL b) || decide (a = b)))
  | .gtr => K (.bool (!(Op.bytesLess (bytesL a) (bytesL b) || decide (a = b))))
  | .geq => K (.bool (!Op.bytesLess (bytesL a) (bytesL b)))
  | _ => False
theorem strW_spec {op : BinOp} {a b : ByteArray} {K : AV → Prop} (h : strW op a b K) : ∃ v, binStr op a b = some v ∧ K v :=
  binSW_spec (by cases op <;> exact h)
def intW (op : BinOp) (k : IntKind) (a b : Int) (K : AV → Prop) : Prop :=
  match op with
  | .add => wrW k (a + b) fun c => K (.int k c)
  | .sub => wrW k (a - b) fun c => K (.int k c)
  | .mul => wrW k (a * b) fun c => K (.int k c)
  | .quo => quoW k a b fun c => K (.int k c)
  | .rem => remW a b fun c => K (.int k c)
  | .and => K (.int k (bitsOp .and k a b))
  | .or => K (.int k (bitsOp .or k a b))
  | .xor => K (.int k (bitsOp .xor k a b))
  | .andNot => K (.int k (bitsOp .andNot k a b))
  | .eql => K (.bool (decide (a = b)))
  | .neq => K (.bool (decide (a ≠ b)))
  | .lss => K (.bool (decide (a < b)))
  | .leq => K (.bool (decide (a ≤ b)))
  | .gtr => K (.bool (decide (b < a)))
  | .geq => K (.bool (decide (b ≤ a)))
  | _ => False
theorem intW_spec {op : BinOp} {k : IntKind} {a b : Int} {K : AV → Prop} (h : intW op k a b K) : ∃ v, binInt op k a b = some v ∧ K v := by
  cases op <;> simp only [intW] at h <;> simp only [binInt]
  case quo => rw [if_neg h.1]; exact ⟨_, rfl, h.2⟩
  case rem => rw [if_neg h.1]; exact ⟨_, rfl, h.2⟩
  case eql => exact ⟨_, rfl, by rw [show (a == b) = decide (a = b) from rfl]; exact h⟩
  case neq => exact ⟨_, rfl, by rw [show (a != b) = decide (a ≠ b) from by by_cases e : a = b <;> simp [e]]; exact h⟩
  all_goals first | exact h.elim | exact ⟨_, rfl, h⟩
def binS (op : BinOp) (e : EqK) (x y : AV) (K : AV → Prop) : Prop :=
  match e with
  | .basic => (match x with
    | .int k a => (match y with
      | .int k' b => (match op with
        | .shl => shlW k a b fun c => K (.int k c)
        | .shr => shrW k a b fun c => K (.int k c)
        | op => ifB (kindEq k k') (intW op k a b K) False)
      | _ => False)
    | .str a => (match y with
      | .str b => strW op a b K
      | _ => False)
    | _ => False)
  | e => match op with
    | .eql => eqW e x y fun r => K (.bool r)
    | .neq => eqW e x y fun r => K (.bool (!r))
    | _ => False
theorem eqVal_noint {e : EqK} {k k' : IntKind} {a b : Int} {r : Bool} : eqVal e (.int k a) (.int k' b) ≠ some r := by cases e <;> simp [eqVal]
theorem eqVal_nostr {e : EqK} {a b : ByteArray} {r : Bool} : eqVal e (.str a) (.str b) ≠ some r := by cases e <;> simp [eqVal]
theorem binV_eql {e : EqK} {x y : AV} {r : Bool} (h : eqVal e x y = some r) : binV .eql e x y = some (.bool r) ∧ binV .neq e x y = some (.bool (!r)) := by
  unfold binV
  split
  · exact absurd h eqVal_noint
  · exact absurd h eqVal_nostr
  · simp [h]
theorem binS_spec {op : BinOp} {e : EqK} {x y : AV} {K : AV → Prop} (h : binS op e x y K) : ∃ v, binV op e x y = some v ∧ K v := by
  unfold binS at h
  split at h
  · split at h
    · split at h
      · split at h
        · obtain ⟨h0, h⟩ := h; exact ⟨_, shInt_shl h0, h⟩
        · obtain ⟨h0, h⟩ := h; exact ⟨_, shInt_shr h0, h⟩
        · rename_i h1 h2
          obtain ⟨hk, h3⟩ := ifB_and h
          have := kindEq_eq hk
          subst this
          obtain ⟨v, hv, h4⟩ := intW_spec h3
          refine ⟨v, ?_, h4⟩
          unfold binV
          cases op <;> first | exact (h1 rfl).elim | exact (h2 rfl).elim | (simp only [if_true]; exact hv)
      · exact h.elim
    · split at h
      · exact strW_spec h
      · exact h.elim
    · exact h.elim
  · split at h
    · obtain ⟨r, hr, h⟩ := eqW_spec h
      exact ⟨_, (binV_eql hr).1, h⟩
    · obtain ⟨r, hr, h⟩ := eqW_spec h
      exact ⟨_, (binV_eql hr).2, h⟩
    · exact h.elim
def bin2S (op : BinOp) (e : EqK) (x y : AV) (l : Option Int) (K : AV → Prop) : Prop :=
  match l with
  | some n => (match op with
    | .shl => (match e with
      | .basic => castW2 x fun k a => shlcW k a n fun c => K (.int k c)
      | _ => False)
    | .shr => (match e with
      | .basic => castW2 x fun k a => shrcW k a n fun c => K (.int k c)
      | _ => False)
    | op => binS op e x y K)
  | none => binS op e x y K
where castW2 (x : AV) (K : IntKind → Int → Prop) : Prop :=
  match x with
  | .int k a => K k a
  | _ => False
theorem bin2S_spec {op : BinOp} {e : EqK} {x : AV} {yo : AOpd} {y : AV} {t : Tmps} {K : AV → Prop} (hy : yo.ev t = some y) (h : bin2S op e x y yo.lit K) : ∃ v, binV op e x y = some v ∧ K v := by
  unfold bin2S at h
  split at h
  · rename_i l n hl
    have hyn : ∃ k, y = .int k n := by
      cases yo with
      | const c =>
        cases c <;> simp only [AOpd.lit, reduceCtorEq, Option.some.injEq] at hl
        subst hl
        simp only [AOpd.ev, Option.some.injEq] at hy
        exact ⟨_, hy.symm⟩
      | _ => simp [AOpd.lit] at hl
    obtain ⟨k', rfl⟩ := hyn
    split at h
    · split at h
      · unfold bin2S.castW2 at h
        split at h
        · unfold shlcW at h
          split at h
          · rename_i hm
            obtain ⟨h0, h1⟩ := shcAmt_spec hm
            refine ⟨_, shInt_shl h0, ?_⟩
            rw [h1]; exact h
          · exact h.elim
        · exact h.elim
      · exact h.elim
    · split at h
      · unfold bin2S.castW2 at h
        split at h
        · unfold shrcW at h
          split at h
          · rename_i hm
            obtain ⟨h0, h1⟩ := shcAmt_spec hm
            refine ⟨_, shInt_shr h0, ?_⟩
            rw [h1]; exact h
          · exact h.elim
        · exact h.elim
      · exact h.elim
    · exact binS_spec h
  · exact binS_spec h

def unS (op : UnOp) (x : AV) (K : AV → Prop) : Prop :=
  match op with
  | .neg => (match x with
    | .int k n => wrW k (0 - n) fun c => K (.int k c)
    | _ => False)
  | .xor => (match x with
    | .int k n => K (.int k (bitsOp .xor k (ifV k.signed (-1) k.max) n))
    | _ => False)
  | .not => (match x with
    | .bool b => K (.bool (!b))
    | _ => False)
  | _ => False
where ifV (b : Bool) (x y : Int) : Int :=
  match b with
  | true => x
  | false => y
theorem unS_spec {op : UnOp} {x : AV} {K : AV → Prop} (h : unS op x K) : ∃ v, unV op x = some v ∧ K v := by
  unfold unS at h
  split at h
  · split at h
    · exact ⟨_, rfl, h⟩
    · exact h.elim
  · split at h
    · refine ⟨_, rfl, ?_⟩
      rename_i k n
      cases hs : k.signed <;> rw [hs] at h <;> simpa [unS.ifV] using h
    · exact h.elim
  · split at h
    · exact ⟨_, rfl, h⟩
    · exact h.elim
  · exact h.elim

/-! ### Parts of values -/
def cellOkW (v : AV) (size : Nat) (X : Prop) : Prop :=
  match v with
  | .agg l => (l.length = size ∧ l.all AV.one = true) ∧ X
  | .tup _ => False
  | _ => ifB (Nat.beq size 1) X False
theorem cellOkW_spec {v : AV} {size : Nat} {X : Prop} (h : cellOkW v size X) : (v.cells.length = size ∧ v.cells.all AV.one = true) ∧ X := by
  cases v <;> simp only [cellOkW] at h
  case agg l => exact h
  all_goals
    obtain ⟨h1, h2⟩ := ifB_and h
    have := Nat.eq_of_beq_eq_true h1
    subst this
    exact ⟨⟨rfl, rfl⟩, h2⟩
def fillS (n : Nat) (t : Tmps) (l : List AV) : List (Nat × Nat × AOpd) → (List AV → Prop) → Prop
  | [], k => k l
  | (off, size, x) :: rest, k => evW x t fun v => cellOkW v size (ifB (Nat.ble (off + size) n) (fillS n t (setAt l off v.cells) rest k) False)
theorem fillS_spec {n : Nat} {t : Tmps} : ∀ {ps : List (Nat × Nat × AOpd)} {l : List AV} {k : List AV → Prop}, l.length = n → fillS n t l ps k → ∃ l', fillA t l ps = some l' ∧ k l'
  | [], l, k, _, h => ⟨l, rfl, h⟩
  | (off, size, x) :: ps, l, k, hn, h => by
    obtain ⟨v, hv, h⟩ := evW_spec h
    obtain ⟨⟨h1, h2⟩, h⟩ := cellOkW_spec h
    obtain ⟨h3, h⟩ := ifB_and h
    obtain ⟨l', hl, h⟩ := fillS_spec (by rw [setAt_length]; exact hn) h
    refine ⟨l', ?_, h⟩
    simp only [fillA, hv, Option.bind_some]
    rw [if_pos ⟨h1, by have := Nat.le_of_ble_eq_true h3; omega, h2⟩]
    exact hl
/-! ### Reading -/
def ldW (σ : Mem) (v : AV) (K : AV → Prop) : Prop :=
  match v with
  | .ptr b o => optW (σ.cell b o) K
  | _ => False
def ldnW (n : Nat) (σ : Mem) (v : AV) (K : AV → Prop) : Prop :=
  match v with
  | .ptr b o => optW (σ.cells b o n) fun c => K (.agg c)
  | _ => False
def nchkW (v : AV) (K : AV → Prop) : Prop :=
  match v with
  | .ptr b o => K (.ptr b o)
  | .func f c => K (.func f c)
  | _ => False
def bstrW (σ : Mem) (v : AV) (K : ByteArray → Prop) : Prop :=
  match v with
  | .nils => K ByteArray.empty
  | .slice b o n _ => optW ((σ.cells b o n).bind toBytes) fun r => K ⟨r.toArray⟩
  | _ => False
def sbytesW (s : ByteArray) (X : Prop) : Prop := s.size ≤ 9223372036854775806 ∧ X
def repl (n : Nat) (z : List AV) : List AV :=
  match z with
  | [a] => List.replicate n a
  | z => (List.replicate n z).flatten
theorem repl_eq (n : Nat) (z : List AV) : repl n z = (List.replicate n z).flatten := by
  unfold repl
  split
  · rename_i a
    induction n with
    | zero => rfl
    | succ n ih => rw [List.replicate_succ, List.replicate_succ, List.flatten_cons, ← ih]; rfl
  · rfl
def makeW (bytes : Nat) (n c : Int) (X : Prop) : Prop := (0 ≤ n ∧ n ≤ c ∧ (bytes : Int) * c ≤ 140737488355328 ∧ c ≤ 9223372036854775807) ∧ X
def subW (s : ByteArray) (lo hi : Int) (K : ByteArray → Prop) : Prop := (0 ≤ lo ∧ lo ≤ hi ∧ hi ≤ s.size) ∧ K (s.extract lo.toNat hi.toNat)
def orD (d : Int) : Option Int → Int
  | none => d
  | some n => n
theorem bounds_of {len cap : Nat} {lo hi : Option AV} {lo' hi' : Option Int} (hl : (lo = none ∧ lo' = none) ∨ ∃ k n, lo = some (.int k n) ∧ lo' = some n) (hh : (hi = none ∧ hi' = none) ∨ ∃ k n, hi = some (.int k n) ∧ hi' = some n)
    (h0 : 0 ≤ orD 0 lo') (h1 : orD 0 lo' ≤ orD len hi') (h2 : orD len hi' ≤ cap) : sliceBoundsA len cap lo hi none = some ((orD 0 lo').toNat, (orD len hi').toNat, cap) := by
  unfold sliceBoundsA
  rcases hh with ⟨rfl, rfl⟩ | ⟨k, n, rfl, rfl⟩ <;> rcases hl with ⟨rfl, rfl⟩ | ⟨k', m, rfl, rfl⟩ <;> simp only [orD] at h0 h1 h2 ⊢
  · simp
  · simp only [bnd, AV.asI, Option.bind_some, Option.isSome_none, Bool.false_eq_true, if_false]
    rw [if_pos ⟨h0, h1⟩]; simp
  · simp only [bnd, AV.asI, Option.bind_some]
    rw [if_pos ⟨by omega, h2⟩]; simp
  · simp only [bnd, AV.asI, Option.bind_some]
    rw [if_pos ⟨by omega, h2⟩]
    simp only [Option.bind_some]
    rw [if_pos ⟨h0, by omega⟩]; simp
def slcW (size : Nat) (v : AV) (lo hi : Option Int) (K : AV → Prop) : Prop :=
  match v with
  | .slice b o n c => (c.fits size = true ∧ 0 ≤ orD 0 lo ∧ orD 0 lo ≤ orD n hi ∧ orD n hi ≤ c.least n) ∧
      K (.slice b (o + (orD 0 lo).toNat * size) ((orD n hi).toNat - (orD 0 lo).toNat) (c.cut false (orD 0 lo).toNat (c.least n)))
  | .nils => (0 ≤ orD 0 lo ∧ orD 0 lo ≤ orD (0 : Nat) hi ∧ orD (0 : Nat) hi ≤ (0 : Nat)) ∧ K .nils
  | _ => False
def slc3W (size : Nat) (v : AV) (lo : Option Int) (hi mx : Int) (K : AV → Prop) : Prop :=
  match v with
  | .slice b o n c => (c.fits size = true ∧ 0 ≤ orD 0 lo ∧ orD 0 lo ≤ hi ∧ hi ≤ mx ∧ mx ≤ c.least n) ∧
      K (.slice b (o + (orD 0 lo).toNat * size) (hi.toNat - (orD 0 lo).toNat) (c.cut true (orD 0 lo).toNat mx.toNat))
  | _ => False
def slaW (len size : Nat) (v : AV) (lo hi : Option Int) (K : AV → Prop) : Prop :=
  match v with
  | .ptr b o => (0 ≤ orD 0 lo ∧ orD 0 lo ≤ orD len hi ∧ orD len hi ≤ len) ∧
      K (.slice b (o + (orD 0 lo).toNat * size) ((orD len hi).toNat - (orD 0 lo).toNat) (.ex (len - (orD 0 lo).toNat)))
  | _ => False
def fldW (off : Nat) (v : AV) (K : AV → Prop) : Prop :=
  match v with
  | .ptr b o => K (.ptr b (o + off))
  | _ => False
def aggW (off : Nat) (k : Option Nat) (v : AV) (K : AV → Prop) : Prop :=
  match v with
  | .agg l => optW (partA l off k) K
  | _ => False
def idxW (size : Nat) (v : AV) (j : Int) (K : AV → Prop) : Prop :=
  match v with
  | .slice b o n _ => (0 ≤ j ∧ j < n) ∧ K (.ptr b (o + j.toNat * size))
  | _ => False
def idxAW (len size : Nat) (v : AV) (j : Int) (K : AV → Prop) : Prop :=
  match v with
  | .ptr b o => (0 ≤ j ∧ j < len) ∧ K (.ptr b (o + j.toNat * size))
  | _ => False
def sidxW (s : ByteArray) (j : Int) (K : Int → Prop) : Prop := (0 ≤ j ∧ j < s.size) ∧ K (byteAt s j.toNat : Nat)
def aidxW (len size : Nat) (k : Option Nat) (v : AV) (j : Int) (K : AV → Prop) : Prop :=
  match v with
  | .agg l => (0 ≤ j ∧ j < len) ∧ optW (partA l (j.toNat * size) k) K
  | _ => False
def tupW (v : AV) (i : Nat) (K : AV → Prop) : Prop :=
  match v with
  | .tup l => optW l[i]? K
  | _ => False
def slenW (v : AV) (K : Int → Prop) : Prop :=
  match v with
  | .nils => K 0
  | .slice _ _ n _ => K (n : Nat)
  | _ => False
def capW (v : AV) (K : Int → Prop) : Prop :=
  match v with
  | .nils => K 0
  | .slice _ _ _ (.ex k) => K (k : Nat)
  | _ => False
def mlenW (σ : Mem) (v : AV) (K : Int → Prop) : Prop :=
  match v with
  | .nilm => K 0
  | .map b => optW (σ.get b) fun q => (match q with
    | .map es _ => K (es.length : Nat)
    | _ => False)
  | _ => False
def rangeMW (σ : Mem) (v : AV) (B : Blk → Prop) : Prop :=
  match v with
  | .nilm => B (.iter none 0 [] 0)
  | .map b => optW (σ.get b) fun q => (match q with
    | .map _ clock => B (.iter (some b) clock [] clock)
    | _ => False)
  | _ => False
def entMW (σ : Mem) (v : AV) (K : AV → Prop) : Prop :=
  match v with
  | .ptr b 0 => optW (σ.get b) fun q => (match q with
    | .iter (some m) _ seen stepped => optW (σ.get m) fun q => (match q with
      | .map es clock => optW seen.getLast? fun stamp => (clock = stepped) ∧ optW (es.find? fun e => e.2.2 == stamp) fun e => K (.tup [e.1, e.2.1])
      | _ => False)
    | _ => False)
  | _ => False
def nextMW (σ : Mem) (v : AV) (k : AV → Mem → Prop) : Prop :=
  match v with
  | .ptr b 0 => (match σ.get b with
    | some (.iter none _ _ _) => k (.tup [.bool false]) σ
    | some (.iter (some m) since seen last) => (match σ.get m with
      | some (.map es clock) => (∀ e ∈ es, e.2.2 < since) ∧ since ≤ last ∧
          ((∀ e ∈ es, e.2.2 ∈ seen) → k (.tup [.bool false]) σ) ∧
          ∀ e ∈ es, e.2.2 ∉ seen → k (.tup [.bool true, e.1, e.2.1]) (σ.put b (some (.iter (some m) since (seen ++ [e.2.2]) clock)))
      | _ => False)
    | _ => False)
  | _ => False
def lookW (σ : Mem) (z : AV) (ok : Bool) (v kv : AV) (K : AV → Prop) : Prop :=
  match v with
  | .nilm => K (if ok then .tup [z, .bool false] else z)
  | .map b => optW (σ.get b) fun q => (match q with
    | .map es _ => optW (findK kv es) fun r => (match r with
      | some i => optW es[i]? fun e => K (if ok then .tup [e.2.1, .bool true] else e.2.1)
      | none => K (if ok then .tup [z, .bool false] else z))
    | _ => False)
  | _ => False
def imax (a b : Int) : Int := if b > a then b else a
def imin (a b : Int) : Int := if b < a then b else a
def mmW (mx : Bool) : AV → List AV → (AV → Prop) → Prop
  | a, [], K => K a
  | a, b :: l, K => (match a with
    | .int k x => (match b with
      | .int k' y => ifB (kindEq k k') (mmW mx (.int k (mm mx x y)) l K) False
      | _ => False)
    | _ => False)
where mm (mx : Bool) (x y : Int) : Int :=
  match mx with
  | true => imax x y
  | false => imin x y
theorem mmW_spec {mx : Bool} : ∀ {l : List AV} {a : AV} {K : AV → Prop}, mmW mx a l K → ∃ r, minmaxL mx a l = some r ∧ K r
  | [], a, K, h => ⟨a, rfl, h⟩
  | b :: l, a, K, h => by
    unfold mmW at h
    split at h
    · split at h
      · obtain ⟨hk, h2⟩ := ifB_and h
        have := kindEq_eq hk
        subst this
        obtain ⟨r, hr, h3⟩ := mmW_spec h2
        refine ⟨r, ?_, h3⟩
        rw [← hr]
        simp only [minmaxL, minmaxV, if_true, Option.bind_some]
        cases mx <;> rfl
      · exact h.elim
    · exact h.elim
def evoS (x : Option AOpd) (t : Tmps) (k : Option Int → Prop) : Prop :=
  match x with
  | none => k none
  | some x => evW x t fun v => (match v with
    | .int _ n => k (some n)
    | _ => False)
theorem evoS_spec {x : Option AOpd} {t : Tmps} {k : Option Int → Prop} (h : evoS x t k) : ∃ o o', evo t x = some o ∧ ((o = none ∧ o' = none ∧ x = none) ∨ ∃ k n, o = some (.int k n) ∧ o' = some n) ∧ k o' := by
  cases x with
  | none => exact ⟨none, none, rfl, .inl ⟨rfl, rfl, rfl⟩, h⟩
  | some x =>
    obtain ⟨v, hv, h⟩ := evW_spec h
    cases v <;> simp only at h
    rename_i k n
    exact ⟨_, _, by simp [evo, hv], .inr ⟨k, n, rfl, rfl⟩, h⟩
end Go.Vit
end

section
namespace Go.Vit
def boxW (v : AV) (X : Prop) : Prop :=
  match v with
  | .agg l => l.all AV.one = true ∧ X
  | .tup _ => False
  | _ => X
def keyW (kk : Bool) (k : AV) (X : Prop) : Prop := ifB (isKey kk k) X False
def nopS (id : Nat) (op : AOp) (t : Tmps) (σ : Mem) (K : AV → Prop) (B : AV → Blk → Prop) : Prop :=
  match op with
  | .mov x => evW x t K
  | .pick c a b => evW c t fun cv => (match cv with
    | .bool r => ifB r (evW a t K) (evW b t K)
    | _ => False)
  | .alloc z => B (.ptr id 0) (.rw z)
  | .allocB e => B (.ptr id 0) (.bld e none)
  | .box x => evW x t fun v => boxW v (B (.ptr id 0) (.rw v.cells))
  | .build z ps => fillS z.length t z ps fun l => K (.agg l)
  | .newSlice n z ps => fillS z.length t z ps fun l => B (.slice id 0 n (.ex n)) (.rw l)
  | .load k x => evW x t fun v => (match k with
    | none => ldW σ v K
    | some n => ldnW n σ v K)
  | .nilchk x => evW x t fun v => nchkW v K
  | .bin op e x y => evW x t fun a => evW y t fun b => bin2S op e a b y.lit K
  | .un op x => evW x t fun a => unS op a K
  | .conv c x => evW x t fun a => (match c with
    | .toInt k => (match a with
      | .int _ n => wrW k n fun c => K (.int k c)
      | _ => False)
    | .strBytes => (match a with
      | .str s => sbytesW s (B (.slice id 0 s.size (.op 1)) (.rw (bytesOf s)))
      | _ => False)
    | .bytesStr => bstrW σ a fun s => K (.str s)
    | .same => (match a with
      | .str s => K (.str s)
      | _ => False))
  | .mkFn f xs => evsW xs t fun l => K (.func f l)
  | .mkMap => B (.map id) (.map [] 0)
  | .make bytes size z n c => evW n t fun nv => evW c t fun cv => (match nv with
    | .int _ n => (match cv with
      | .int _ c => ifB (Nat.beq z.length size) (makeW bytes n c (B (.slice id 0 n.toNat (.ex c.toNat)) (.rw (repl c.toNat z)))) False
      | _ => False)
    | _ => False)
  | .slStr x lo hi => evW x t fun a => evoS lo t fun l => evoS hi t fun h => (match a with
    | .str s => subW s (orD 0 l) (orD s.size h) fun r => K (.str r)
    | _ => False)
  | .slSl size x lo hi mx => evW x t fun a => evoS lo t fun l => evoS hi t fun h => (match mx with
    | none => slcW size a l h K
    | some mx => evoS (some mx) t fun m => (match h with
      | some h => (match m with
        | some m => slc3W size a l h m K
        | none => False)
      | none => False))
  | .slArr len size x lo hi => evW x t fun a => evoS lo t fun l => evoS hi t fun h => slaW len size a l h K
  | .faddr off x => evW x t fun v => fldW off v K
  | .field off k x => evW x t fun v => aggW off k v K
  | .iaddrS size x i => evW x t fun v => evW i t fun iv => (match iv with
    | .int _ j => idxW size v j K
    | _ => False)
  | .iaddrA len size x i => evW x t fun v => evW i t fun iv => (match iv with
    | .int _ j => idxAW len size v j K
    | _ => False)
  | .idxStr x i => evW x t fun v => evW i t fun iv => (match v with
    | .str s => (match iv with
      | .int _ j => sidxW s j fun c => K (.int .u8 c)
      | _ => False)
    | _ => False)
  | .idxArr len size k x i => evW x t fun v => evW i t fun iv => (match iv with
    | .int _ j => aidxW len size k v j K
    | _ => False)
  | .extract x i => evW x t fun v => tupW v i K
  | .len q x => evW x t fun v => (match q with
    | true => (match v with
      | .str s => K (.int .i64 s.size)
      | _ => False)
    | false => slenW v fun n => K (.int .i64 n))
  | .cap x => evW x t fun v => capW v fun n => K (.int .i64 n)
  | .lenArr n => K (.int .i64 n)
  | .lenMap x => evW x t fun v => mlenW σ v fun n => K (.int .i64 n)
  | .lookup kk z ok x k => evW x t fun v => evW k t fun kv => keyW kk kv (lookW σ z ok v kv K)
  | .rangeM x => evW x t fun v => rangeMW σ v fun q => B (.ptr id 0) q
  | .entM x => evW x t fun v => entMW σ v K
  | .minmax mx x xs => evW x t fun v => evsW xs t fun l => mmW mx v l K
  | _ => False
theorem bounds3_of {len cap : Nat} {lo : Option AV} {lo' : Option Int} {k k' : IntKind} {hi mx : Int} (hl : (lo = none ∧ lo' = none) ∨ ∃ k n, lo = some (.int k n) ∧ lo' = some n)
    (h0 : 0 ≤ orD 0 lo') (h1 : orD 0 lo' ≤ hi) (h2 : hi ≤ mx) (h3 : mx ≤ cap) : sliceBoundsA len cap lo (some (.int k hi)) (some (.int k' mx)) = some ((orD 0 lo').toNat, hi.toNat, mx.toNat) := by
  unfold sliceBoundsA
  rcases hl with ⟨rfl, rfl⟩ | ⟨k', m, rfl, rfl⟩ <;> simp only [orD] at h0 h1 ⊢ <;> simp only [bnd, AV.asI, Option.bind_some]
  · rw [if_pos ⟨by omega, h3⟩]; simp only [Option.bind_some]; rw [if_pos ⟨by omega, by omega⟩]; simp
  · rw [if_pos ⟨by omega, h3⟩]; simp only [Option.bind_some]; rw [if_pos ⟨by omega, by omega⟩]; simp only [Option.bind_some]; rw [if_pos ⟨by omega, by omega⟩]; simp
theorem weak {o : Option AV} {o' : Option Int} {x : Option AOpd} (h : (o = none ∧ o' = none ∧ x = none) ∨ ∃ k n, o = some (.int k n) ∧ o' = some n) : (o = none ∧ o' = none) ∨ ∃ k n, o = some (.int k n) ∧ o' = some n :=
  h.imp_left fun h => ⟨h.1, h.2.1⟩
theorem evo_none (t : Tmps) : evo t none = some none := rfl
theorem nopS_spec {id : Nat} {op : AOp} {t : Tmps} {σ : Mem} {K : AV → Prop} {B : AV → Blk → Prop} (h : nopS id op t σ K B) : ∃ r, nop id op t σ = some r ∧ onW K B r.1 r.2 := by
  cases op <;> simp only [nopS] at h <;> simp only [nop]
  case mov x => exact okEv h fun v h => ⟨(_, _), rfl, h⟩
  case pick c a b =>
    refine okEv h fun v h => ?_
    cases v <;> first | exact h.elim | skip
    rename_i r
    cases r
    · exact okEv h fun v h => ⟨(_, _), rfl, h⟩
    · exact okEv h fun v h => ⟨(_, _), rfl, h⟩
  case alloc z => exact ⟨(_, _), rfl, h⟩
  case allocB e => exact ⟨(_, _), rfl, h⟩
  case box x =>
    refine okEv h fun v h => ?_
    have : v.cells.all AV.one = true ∧ B (.ptr id 0) (.rw v.cells) := by
      cases v <;> first | exact h | exact h.elim | exact ⟨rfl, h⟩
    exact ⟨(_, some _), by rw [if_pos this.1], this.2⟩
  case build z ps =>
    obtain ⟨l, hl, h⟩ := fillS_spec rfl h
    exact ⟨(_, none), by rw [hl]; rfl, h⟩
  case newSlice n z ps =>
    obtain ⟨l, hl, h⟩ := fillS_spec rfl h
    exact ⟨(_, some _), by rw [hl]; rfl, h⟩
  case load k x =>
    refine okEv h fun v h => ?_
    cases k with
    | none =>
      unfold ldW at h
      cases v <;> first | exact h.elim | skip
      obtain ⟨a, ha, h⟩ := optW_spec h
      exact ⟨(_, none), by dsimp only; rw [cell_cells ha]; rfl, h⟩
    | some n =>
      simp only [ldnW] at h
      cases v <;> first | exact h.elim | skip
      obtain ⟨c, hc, h⟩ := optW_spec h
      exact ⟨(_, none), by dsimp only; rw [hc]; rfl, h⟩
  case nilchk x =>
    refine okEv h fun v h => ?_
    cases v <;> first | exact h.elim | exact ⟨(_, _), rfl, h⟩
  case bin op e x y =>
    obtain ⟨a, ha, h⟩ := evW_spec h
    obtain ⟨b, hb, h⟩ := evW_spec h
    obtain ⟨v, hv, h⟩ := bin2S_spec hb h
    exact ⟨(v, none), by simp only [ha, hb, Option.bind_some, hv], h⟩
  case un op x => exact okEv h fun a h => okBind (unS_spec h) fun v h => ⟨(_, _), rfl, h⟩
  case conv c x =>
    refine okEv h fun a h => ?_
    cases c
    case toInt k => cases a <;> first | exact h.elim | exact ⟨_, rfl, h⟩
    case strBytes =>
      cases a <;> first | exact h.elim | skip
      exact ⟨(_, some _), by dsimp only; rw [if_pos (by have := h.1; omega)], h.2⟩
    case bytesStr =>
      cases a <;> first | exact h.elim | skip
      · exact ⟨(_, _), rfl, h⟩
      · obtain ⟨r, hr, h⟩ := optW_spec h
        simp only [Option.bind_eq_some_iff] at hr
        obtain ⟨l, hl, hr⟩ := hr
        exact ⟨(_, none), by simp only [hl, Option.bind_some, hr], h⟩
    case same => cases a <;> first | exact h.elim | exact ⟨(_, _), rfl, h⟩
  case mkFn f xs => exact okEvs h fun v h => ⟨(_, _), rfl, h⟩
  case mkMap => exact ⟨(_, _), rfl, h⟩
  case make bytes size z n c =>
    refine okEv h fun nv h => okEv h fun cv h => ?_
    cases nv <;> first | exact h.elim | skip
    cases cv <;> first | exact h.elim | skip
    obtain ⟨h1, h2, h⟩ := ifB_and h
    refine ⟨(_, some _), by dsimp only [AV.asI, Option.bind_some]; rw [if_pos ⟨h2.1, h2.2.1, h2.2.2.2, by simpa using h2.2.2.1, Nat.eq_of_beq_eq_true h1⟩], ?_⟩
    rw [← repl_eq]; exact h
  case slStr x lo hi =>
    refine okEv h fun a h => ?_
    obtain ⟨l, l', hl, hl', h⟩ := evoS_spec h
    obtain ⟨u, u', hu, hu', h⟩ := evoS_spec h
    cases a <;> first | exact h.elim | skip
    obtain ⟨⟨h1, h2, h3⟩, h⟩ := h
    exact ⟨(_, none), by simp only [hl, hu, Option.bind_some, bounds_of (weak hl') (weak hu') h1 h2 h3], h⟩
  case slSl size x lo hi mx =>
    refine okEv h fun a h => ?_
    obtain ⟨l, l', hl, hl', h⟩ := evoS_spec h
    obtain ⟨u, u', hu, hu', h⟩ := evoS_spec h
    cases mx with
    | none =>
      cases a <;> first | exact h.elim | skip
      · obtain ⟨⟨h1, h2, h3⟩, h⟩ := h
        exact ⟨(_, none), by simp only [hl, hu, Option.bind_some, evo_none, bounds_of (weak hl') (weak hu') h1 h2 h3], h⟩
      · obtain ⟨⟨h0, h1, h2, h3⟩, h⟩ := h
        refine ⟨(_, none), by simp only [hl, hu, Option.bind_some, evo_none, h0, if_true, bounds_of (weak hl') (weak hu') h1 h2 h3]; rfl, h⟩
    | some mx =>
      obtain ⟨m, m', hm, hm', h⟩ := evoS_spec h
      cases u' <;> cases m' <;> first | exact h.elim | skip
      rename_i u' m'
      rcases hu' with ⟨_, e, _⟩ | ⟨ku, nu, rfl, e⟩
      · cases e
      rcases hm' with ⟨_, e', _⟩ | ⟨km, nm, rfl, e'⟩
      · cases e'
      cases e; cases e'
      cases a <;> first | exact h.elim | skip
      obtain ⟨⟨h0, h1, h2, h3, h4⟩, h⟩ := h
      exact ⟨(_, none), by simp only [hl, hu, hm, Option.bind_some, h0, if_true, bounds3_of (weak hl') h1 h2 h3 h4]; rfl, h⟩
  case slArr len size x lo hi =>
    refine okEv h fun a h => ?_
    obtain ⟨l, l', hl, hl', h⟩ := evoS_spec h
    obtain ⟨u, u', hu, hu', h⟩ := evoS_spec h
    cases a <;> first | exact h.elim | skip
    obtain ⟨⟨h1, h2, h3⟩, h⟩ := h
    exact ⟨(_, none), by simp only [hl, hu, Option.bind_some, bounds_of (weak hl') (weak hu') h1 h2 h3], h⟩
  case faddr off x =>
    refine okEv h fun v h => ?_
    cases v <;> first | exact h.elim | exact ⟨(_, _), rfl, h⟩
  case field off k x =>
    refine okEv h fun v h => ?_
    cases v <;> first | exact h.elim | skip
    obtain ⟨r, hr, h⟩ := optW_spec h
    exact ⟨(_, none), by simp only [hr, Option.bind_some], h⟩
  case iaddrS size x i =>
    refine okEv h fun v h => okEv h fun iv h => ?_
    cases iv <;> first | exact h.elim | skip
    cases v <;> first | exact h.elim | skip
    exact ⟨(_, none), by dsimp only [AV.asI, Option.bind_some]; rw [if_pos h.1], h.2⟩
  case iaddrA len size x i =>
    refine okEv h fun v h => okEv h fun iv h => ?_
    cases iv <;> first | exact h.elim | skip
    cases v <;> first | exact h.elim | skip
    exact ⟨(_, none), by dsimp only [AV.asI, Option.bind_some]; rw [if_pos h.1], h.2⟩
  case idxStr x i =>
    refine okEv h fun v h1 => okEv h1 fun iv h2 => ?_
    cases v <;> first | exact h2.elim | skip
    cases iv <;> first | exact h2.elim | skip
    rename_i s k j
    obtain ⟨⟨h0, h1⟩, h⟩ := h2
    have hc := byteAt_get (s := s) (i := j.toNat) (by omega)
    have hb : byteAt s j.toNat = (UInt8.ofNat (byteAt s j.toNat)).toNat := by
      have := byteAt_lt s j.toNat
      rw [UInt8.toNat_ofNat']; omega
    unfold bytesL at hc
    exact ⟨(_, none), by dsimp only [AV.asI, Option.bind_some]; rw [if_pos h0, hc]; rfl, by rw [← hb]; exact h⟩
  case idxArr len size k x i =>
    refine okEv h fun v h => okEv h fun iv h => ?_
    cases iv <;> first | exact h.elim | skip
    cases v <;> first | exact h.elim | skip
    obtain ⟨h0, h⟩ := h
    obtain ⟨r, hr, h⟩ := optW_spec h
    exact ⟨(_, none), by dsimp only [AV.asI, Option.bind_some]; rw [if_pos h0, hr]; rfl, h⟩
  case extract x i =>
    refine okEv h fun v h => ?_
    cases v <;> first | exact h.elim | skip
    obtain ⟨r, hr, h⟩ := optW_spec h
    exact ⟨(_, none), by simp only [hr, Option.bind_some], h⟩
  case len q x =>
    refine okEv h fun v h => ?_
    cases q
    · simp only [slenW] at h
      cases v <;> first | exact h.elim | exact ⟨(_, _), rfl, h⟩
    · cases v <;> first | exact h.elim | exact ⟨(_, _), rfl, h⟩
  case cap x =>
    refine okEv h fun v h => ?_
    simp only [capW] at h
    cases v <;> first | exact h.elim | exact ⟨(_, _), rfl, h⟩ | skip
    rename_i b o n c
    cases c <;> first | exact h.elim | exact ⟨(_, _), rfl, h⟩
  case lenArr n => exact ⟨(_, _), rfl, h⟩
  case lenMap x =>
    refine okEv h fun v h => ?_
    cases v <;> first | exact h.elim | skip
    · exact ⟨(_, _), rfl, h⟩
    · obtain ⟨q, hg, h⟩ := optW_spec h
      cases q <;> first | exact h.elim | skip
      exact ⟨(_, none), by simp only [hg, Option.bind_some], h⟩
  case lookup kk z ok x k =>
    refine okEv h fun v h => okEv h fun kv h => ?_
    obtain ⟨hk, h⟩ := ifB_and h
    rw [hk]
    simp only [Bool.not_true, Bool.false_eq_true, if_false]
    cases v <;> first | exact h.elim | skip
    · refine ⟨(if ok then .tup [z, .bool false] else z, none), ?_, h⟩
      simp [findK]
    · obtain ⟨q, hg, h⟩ := optW_spec h
      cases q <;> first | exact h.elim | skip
      obtain ⟨r, hf, h⟩ := optW_spec h
      cases r with
      | some i =>
        obtain ⟨e, he, h⟩ := optW_spec h
        refine ⟨(if ok then .tup [e.2.1, .bool true] else e.2.1, none), ?_, h⟩
        simp [hg, hf, he]
      | none =>
        refine ⟨(if ok then .tup [z, .bool false] else z, none), ?_, h⟩
        simp [hg, hf]
  case rangeM x =>
    refine okEv h fun v h => ?_
    cases v <;> first | exact h.elim | skip
    · exact ⟨(_, some _), rfl, h⟩
    · obtain ⟨q, hg, h⟩ := optW_spec h
      cases q <;> first | exact h.elim | skip
      refine ⟨(_, some _), ?_, h⟩
      simp [hg]
  case entM x =>
    refine okEv h fun v h => ?_
    unfold entMW at h
    split at h
    · obtain ⟨q, hg, h⟩ := optW_spec h
      split at h
      · obtain ⟨q2, hg2, h⟩ := optW_spec h
        split at h
        · obtain ⟨stamp, hs, h⟩ := optW_spec h
          obtain ⟨hc, h⟩ := h
          obtain ⟨e, he, h⟩ := optW_spec h
          refine ⟨(_, none), ?_, h⟩
          simp [hg, hg2, hs, hc, he]
        · exact h.elim
      · exact h.elim
    · exact h.elim
  case minmax mx x xs =>
    refine okEv h fun v h => okEvs h fun l h => ?_
    obtain ⟨r, hr, h⟩ := mmW_spec h
    exact ⟨(_, none), by simp only [hr, Option.bind_some], h⟩

/-! ### What changes memory -/
def stW (n : Nat) (σ : Mem) (a v : AV) (K : Mem → Prop) : Prop :=
  match a with
  | .ptr b o => optW (σ.get b) fun q => (match q with
    | .rw c => cellOkW v n (o + n ≤ c.length ∧ K (σ.put b (some (.rw (setAt c o v.cells)))))
    | _ => False)
  | _ => False
def apW (size bytes id : Nat) (σ : Mem) (sv xv : AV) (K : AV → Mem → Prop) : Prop :=
  srcW σ size xv fun m c => c.all AV.one = true ∧ (match sv with
    | .nils => (m = 0 → K .nils σ) ∧ (m ≠ 0 → roomy m bytes ∧ K (.slice id 0 m (.op size)) (σ.put id (some (.rw c))))
    | .slice b o n q => (m = 0 → K (.slice b o n q) σ) ∧ (m ≠ 0 → (match q with
        | .ex k => (n + m ≤ k → optW (σ.get b) fun q => (match q with
            | .rw l => o + (n + m) * size ≤ l.length ∧ K (.slice b o (n + m) (.ex k)) (σ.put b (some (.rw (setAt l (o + n * size) c))))
            | _ => False)) ∧
            (k < n + m → roomy (n + m) bytes ∧ optW (σ.cells b o (n * size)) fun l =>
              l.all AV.one = true ∧ K (.slice id 0 (n + m) (.op size)) (σ.put id (some (.rw (l ++ c)))))
        | .op s => optW (σ.get b) fun q => (match q with
          | .rw l => (s = size ∧ o = 0 ∧ n * size ≤ l.length) ∧ roomy (n + m) bytes ∧ l.all AV.one = true ∧
            K (.slice id 0 (n + m) (.op size)) ((σ.put b none).put id (some (.rw (l.take (n * size) ++ c))))
          | _ => False)))
    | _ => False)
def apzW (size bytes id : Nat) (z : List AV) (σ : Mem) (sv nv : AV) (K : AV → Mem → Prop) : Prop :=
  match sv with
  | .nils => (match nv with
    | .int _ m => (m = 0 → K .nils σ) ∧ (m ≠ 0 → (0 < m ∧ roomy m.toNat bytes) ∧ z.all AV.one = true ∧ K (.slice id 0 m.toNat (.op size)) (σ.put id (some (.rw (List.replicate m.toNat z).flatten))))
    | _ => False)
  | _ => False
def cpW (size : Nat) (σ : Mem) (dv sv : AV) (K : Int → Mem → Prop) : Prop :=
  match dv with
  | .nils => (match sv with
    | .nils => True
    | .slice .. => True
    | .str _ => size = 1
    | _ => False) ∧ K 0 σ
  | .slice b o n _ => (match sv with
    | .nils => K 0 σ
    | .slice b' o' m _ => optW (σ.cells b' o' (Nat.min m n * size)) fun l => (Nat.min m n = 0 → K 0 σ) ∧
        (Nat.min m n ≠ 0 → optW (σ.get b) fun q => (match q with
          | .rw c => (o + l.length ≤ c.length ∧ l.all AV.one = true) ∧ K (Nat.min m n : Nat) (σ.put b (some (.rw (setAt c o l))))
          | _ => False))
    | .str s => size = 1 ∧ (Nat.min s.size n = 0 → K 0 σ) ∧
        (Nat.min s.size n ≠ 0 → optW (σ.get b) fun q => (match q with
          | .rw c => o + Nat.min s.size n ≤ c.length ∧ K (Nat.min s.size n : Nat) (σ.put b (some (.rw (setAt c o ((bytesOf s).take (Nat.min s.size n))))))
          | _ => False))
    | _ => False)
  | _ => False
def mapW (σ : Mem) (m : AV) (K : Nat → List (AV × AV × Nat) → Nat → Prop) : Prop :=
  match m with
  | .map b => optW (σ.get b) fun q => (match q with
    | .map es clock => K b es clock
    | _ => False)
  | _ => False
theorem mapW_spec {σ : Mem} {m : AV} {K : Nat → List (AV × AV × Nat) → Nat → Prop} (h : mapW σ m K) : ∃ b es clock, m = .map b ∧ σ.get b = some (.map es clock) ∧ K b es clock := by
  unfold mapW at h
  split at h
  · obtain ⟨q, hq, h⟩ := optW_spec h
    cases q <;> first | exact h.elim | skip
    exact ⟨_, _, _, rfl, hq, h⟩
  · exact h.elim
def mupW (σ : Mem) (m k v : AV) (K : Mem → Prop) : Prop :=
  mapW σ m fun b es clock => optW (findK k es) fun r => (match r with
    | some i => K (σ.put b (some (.map (es.modify i fun e => (k, v, e.2.2)) clock)))
    | none => K (σ.put b (some (.map (es ++ [(k, v, clock)]) (clock + 1)))))
def mentW (σ : Mem) (z m k : AV) (K : AV → Mem → Prop) : Prop :=
  mapW σ m fun b es clock => optW (findK k es) fun r => (match r with
    | some i => optW es[i]? fun e => K (.tup [e.2.1, .int .i64 e.2.2]) (σ.put b (some (.map (es.modify i fun e => (k, e.2)) clock)))
    | none => K (.tup [z, .int .i64 clock]) (σ.put b (some (.map (es ++ [(k, z, clock)]) (clock + 1)))))
def mestW (σ : Mem) (m : AV) (j : Int) (v : AV) (K : Mem → Prop) : Prop :=
  mapW σ m fun b es clock => optW (es.findIdx? (fun e => (e.2.2 : Int) == j)) fun i =>
    K (σ.put b (some (.map (es.modify i fun e => (e.1, v, e.2.2)) clock)))
def mdelW (σ : Mem) (m k : AV) (K : Mem → Prop) : Prop :=
  match m with
  | .nilm => K σ
  | m => mapW σ m fun b es clock => optW (findK k es) fun r => (match r with
    | some i => K (σ.put b (some (.map (es.eraseIdx i) clock)))
    | none => K σ)
def eopS (id : Nat) (op : AOp) (t : Tmps) (σ : Mem) (K : AV → Mem → Prop) : Prop :=
  match op with
  | .store n a x => evW a t fun av => evW x t fun v => stW n σ av v fun σ' => K (.tup []) σ'
  | .append size bytes s x => evW s t fun sv => evW x t fun xv => apW size bytes id σ sv xv K
  | .appendZ size bytes z s n => evW s t fun sv => evW n t fun nv => apzW size bytes id z σ sv nv K
  | .copy size d s => evW d t fun dv => evW s t fun sv => cpW size σ dv sv fun n σ' => K (.int .i64 n) σ'
  | .mapUpd kk m k x => evW m t fun mv => evW k t fun kv => evW x t fun v => keyW kk kv (mupW σ mv kv v fun σ' => K (.tup []) σ')
  | .mapEnt kk z m k => evW m t fun mv => evW k t fun kv => keyW kk kv (mentW σ z mv kv K)
  | .entSt m s x => evW m t fun mv => evW s t fun sv => evW x t fun v => (match sv with
    | .int _ j => mestW σ mv j v fun σ' => K (.tup []) σ'
    | _ => False)
  | .del kk m k => evW m t fun mv => evW k t fun kv => keyW kk kv (mdelW σ mv kv fun σ' => K (.tup []) σ')
  | _ => False
theorem eopS_spec {id : Nat} {op : AOp} {t : Tmps} {σ : Mem} {K : AV → Mem → Prop} (h : eopS id op t σ K) : ∃ r, eop id op t σ = some r ∧ K r.1 r.2 := by
  cases op <;> simp only [eopS] at h
  case store n a x =>
    simp only [eop]
    refine okEv h fun av h => okEv h fun v h => ?_
    simp only [stW] at h
    cases av <;> first | exact h.elim | skip
    obtain ⟨q, hc, h⟩ := optW_spec h
    cases q <;> first | exact h.elim | skip
    obtain ⟨⟨h1, h2⟩, h3, h⟩ := cellOkW_spec h
    exact ⟨(_, _), by simp only [hc]; rw [if_pos ⟨h1, h3, h2⟩]; rfl, h⟩
  case append size bytes s x => exact eopW_spec (op := .append size bytes s x) h
  case appendZ size bytes z s n =>
    simp only [eop]
    refine okEv h fun sv h => okEv h fun nv h => ?_
    cases sv <;> first | exact h.elim | skip
    cases nv <;> first | exact h.elim | skip
    rename_i k m
    dsimp only [apzW] at h
    by_cases h0 : m = 0
    · exact ⟨(.nils, σ), by simp only [h0, if_true], h.1 h0⟩
    · obtain ⟨⟨h1, h2⟩, h3, h4⟩ := h.2 h0
      exact ⟨(.slice id 0 m.toNat (.op size), σ.put id (some (.rw (List.replicate m.toNat z).flatten))), by simp only [h0, if_false]; rw [if_pos ⟨h1, h2.1, h2.2, h3⟩], h4⟩
  case copy size d s =>
    refine eopW_spec (op := .copy size d s) ?_
    simp only [eopW]
    obtain ⟨dv, hd, h⟩ := evW_spec h
    obtain ⟨sv, hs, h⟩ := evW_spec h
    have ev : ∀ {x : AOpd} {v : AV} {k : AV → Prop}, x.ev t = some v → k v → evW x t k := by
      intro x v k hx hk
      cases x with
      | tmp i => simp only [AOpd.ev] at hx; simp only [evW, hx]; exact hk
      | const c => simp only [AOpd.ev, Option.some.injEq] at hx; subst hx; exact hk
      | glob g => simp only [AOpd.ev, Option.some.injEq] at hx; subst hx; exact hk
    exact ev hd (ev hs h)
  case mapUpd kk m k x =>
    simp only [eop]
    refine okEv h fun mv h => okEv h fun kv h => okEv h fun v h => ?_
    obtain ⟨hk, h⟩ := ifB_and h
    rw [hk]
    simp only [Bool.not_true, Bool.false_eq_true, if_false]
    obtain ⟨b, es, clock, rfl, hg, h⟩ := mapW_spec h
    obtain ⟨r, hr, h⟩ := optW_spec h
    cases r with
    | some i => exact ⟨(_, _), by simp only [hg, hr, Option.bind_some]; rfl, h⟩
    | none => exact ⟨(_, _), by simp only [hg, hr, Option.bind_some]; rfl, h⟩
  case mapEnt kk z m k =>
    simp only [eop]
    refine okEv h fun mv h => okEv h fun kv h => ?_
    obtain ⟨hk, h⟩ := ifB_and h
    rw [hk]
    simp only [Bool.not_true, Bool.false_eq_true, if_false]
    obtain ⟨b, es, clock, rfl, hg, h⟩ := mapW_spec h
    obtain ⟨r, hr, h⟩ := optW_spec h
    cases r with
    | some i =>
      obtain ⟨e, he, h⟩ := optW_spec h
      exact ⟨(_, _), by simp only [hg, hr, he, Option.bind_some]; rfl, h⟩
    | none => exact ⟨(_, _), by simp only [hg, hr, Option.bind_some]; rfl, h⟩
  case entSt m s x =>
    simp only [eop]
    refine okEv h fun mv h => okEv h fun sv h => okEv h fun v h => ?_
    cases sv <;> first | exact h.elim | skip
    obtain ⟨b, es, clock, rfl, hg, h⟩ := mapW_spec h
    obtain ⟨i, hi, h⟩ := optW_spec h
    exact ⟨(_, _), by simp only [AV.asI, hg, hi, Option.bind_some]; rfl, h⟩
  case del kk m k =>
    simp only [eop]
    refine okEv h fun mv h => okEv h fun kv h => ?_
    obtain ⟨hk, h⟩ := ifB_and h
    rw [hk]
    simp only [Bool.not_true, Bool.false_eq_true, if_false]
    unfold mdelW at h
    split at h
    · exact ⟨(_, _), rfl, h⟩
    · obtain ⟨b, es, clock, rfl, hg, h⟩ := mapW_spec h
      obtain ⟨r, hr, h⟩ := optW_spec h
      cases r with
      | some i => exact ⟨(_, _), by simp only [hg, hr, Option.bind_some]; rfl, h⟩
      | none => exact ⟨(_, _), by simp only [hg, hr, Option.bind_some], h⟩
end Go.Vit
end

section
namespace Go.Vit

/-! ### Curried predicates over some things and memory -/
def Fn : List Tag → Type
  | [] => Mem → Prop
  | g :: gs => g.Ty → Fn gs
def Ar : List Tag → Type
  | [] => Unit
  | g :: gs => g.Ty × Ar gs
def Fn.ap : (gs : List Tag) → Fn gs → Ar gs → Mem → Prop
  | [], k, _, σ => k σ
  | _ :: gs, k, a, σ => Fn.ap gs (k a.1) a.2 σ
def Fn.lam : (gs : List Tag) → (Ar gs → Mem → Prop) → Fn gs
  | [], k => fun σ => k () σ
  | _ :: gs, k => fun x => Fn.lam gs fun a σ => k (x, a) σ
theorem Fn.ap_lam : ∀ (gs : List Tag) (k : Ar gs → Mem → Prop) (a : Ar gs) (σ : Mem), Fn.ap gs (Fn.lam gs k) a σ = k a σ
  | [], k, a, σ => rfl
  | _ :: gs, k, a, σ => by rw [Fn.ap, Fn.lam, Fn.ap_lam gs]; rfl
def joinF (gs : List Tag) (body : Fn gs → Prop) (rest : Fn gs) : Prop :=
  ∃ R : Fn gs, body R ∧ ∀ a σ, Fn.ap gs R a σ → Fn.ap gs rest a σ
def loopA (gs : List Tag) (body : Fn gs → Fn gs) (s : Ar gs) (σ : Mem) : Prop :=
  ∃ (ι : Type) (I : ι → Ar gs → Mem → Prop) (μ : ι → Nat) (i : ι), I i s σ ∧
    ∀ i s σ, I i s σ → Fn.ap gs (body (Fn.lam gs fun s' σ' => ∃ j, I j s' σ' ∧ μ j < μ i)) s σ
def loopF (gs : List Tag) (body : Fn gs → Fn gs) : Fn gs := Fn.lam gs (loopA gs body)

/-! ### Code -/
inductive TCode where
  | skip
  | region (n : Nat) (ops : List RegE)
  | seq (a b : TCode)
  | cond (c : AOpd) (thn els : TCode)
  | block (id : Nat) (body : TCode)
  | loop (cs ks : List Nat) (body : TCode)
  | exit (id : Nat)
  | ret
  | scope (body : TCode)
  | join (cs ks : List Nat) (body : TCode)
  | range (g : AOpd) (ps : List Nat) (a b : TCode)
  | regionX (n : Nat) (ops : List RegE) (p q : RegE) (fq fp : List (Nat × AOp))
  | stuck
def TCode.erase : TCode → ACode
  | .skip => .skip
  | .region n ops => .region n ops
  | .seq a b => .seq a.erase b.erase
  | .cond c a b => .cond c a.erase b.erase
  | .block id a => .block id a.erase
  | .loop cs ks a => .seq (.forget (ks ++ cs)) (.loop (.seq a.erase (.forget (ks ++ cs))))
  | .exit id => .exit id
  | .ret => .ret
  | .scope a => .scope a.erase
  | .join cs ks a => .seq a.erase (.forget (ks ++ cs))
  | .range g ps a b => .range g ps a.erase b.erase
  | .regionX n ops p q fq fp => .regionX n ops p q fq fp
  | .stuck => .stuck
abbrev Ann := Option (List Nat × List Nat)
def keepT (k : Ann) (a : TCode) : TCode :=
  match k with
  | none => a
  | some ks => .join ks.1 ks.2 a
def compCodeT (top : Bool) (P : Program) (N : Nat) : Code → List Ann → Option (TCode × List Ann)
  | .skip, l => some (.skip, l)
  | .label _, l => some (.skip, l)
  | .region _ ops draw, l => (match l with
    | [] => none
    | k :: l => (compRegion P N ops draw).bind fun a => (match a with
      | .region n es => some (keepT k (.region n es), l)
      | .regionX n es p q fq fp => some (keepT k (.regionX n es p q fq fp), l)
      | _ => none))
  | .seq a b, l => (compCodeT top P N a l).bind fun x => (compCodeT top P N b x.2).bind fun y => some (.seq x.1 y.1, y.2)
  | .cond c a b, l => (match l with
    | [] => none
    | k :: l => (opd c).bind fun c => (compCodeT top P N a l).bind fun x => (compCodeT top P N b x.2).bind fun y => some (keepT k (.cond c x.1 y.1), y.2))
  | .block id a, l => (match l with
    | [] => none
    | k :: l => (compCodeT top P N a l).bind fun x => some (keepT k (.block id x.1), x.2))
  | .loop a, l => (match l with
    | some ks :: l => (compCodeT top P N a l).bind fun x => some (.loop ks.1 ks.2 x.1, x.2)
    | _ => none)
  | .scope a, l => (compCodeT top P N a l).bind fun x => some (.scope x.1, x.2)
  | .exit id, l => some (.exit id, l)
  | .ret, l => some (.ret, l)
  | .rangeFunc g ps a b, l => (match top with
    | true => (opd g).bind fun g => (compCodeT false P N a l).bind fun x => (compCodeT false P N b x.2).bind fun y => if ps.toList.all fun i => decide (i < N) then some (.range g ps.toList x.1 y.1, y.2) else none
    | false => some (.stuck, l))
  | _, l => some (.stuck, l)
structure TFunc where
  N : Nat
  body : TCode
  res : List ARes
def compFuncT (P : Program) (f : Nat) (ks : List Ann) : Option TFunc :=
  (P.funcs[f]?).bind fun fn => fn.body.bind fun c => ifO (fn.name == "runtime.NumGoroutine") none
    ((compCodeT true P fn.ntmps c ks).bind fun b => (compRes P fn.results.toList).bind fun r => some ⟨fn.ntmps, b.1, r⟩)
where ifO {α : Type} (b : Bool) (x y : α) : α :=
  match b with
  | true => x
  | false => y
theorem keepT_ok {P : Program} {N : Nat} {ro : Option Nat} {Y : YEnv} {x : Code} {a : TCode} (h : CodeOk ro P Y N x a.erase) (k : Ann) : CodeOk ro P Y N x (keepT k a).erase := by
  cases k with
  | none => exact h
  | some ks => exact h.keepAfter _
theorem compCodeT_ok {P : Program} {N : Nat} (hm : P.follows .mixedOrders = true) : ∀ {c : Code} {top : Bool} {l : List Ann} {x : TCode × List Ann}, compCodeT top P N c l = some x → ∀ {ro : Option Nat} {Y : YEnv}, (top = true → ro = none) → CodeOk ro P Y N c x.1.erase := by
  intro c
  induction c with
  | skip => intro top l x h ro Y htop; simp [compCodeT] at h; subst h; exact .skip
  | label b => intro top l x h ro Y htop; simp [compCodeT] at h; subst h; exact .label b
  | region id ops draw =>
    intro top l x h ro Y htop
    cases l with
    | nil => simp [compCodeT] at h
    | cons k l =>
      simp only [compCodeT, Option.bind_eq_some_iff] at h
      obtain ⟨a, ha, h⟩ := h
      have ok := compCode_ok hm (c := .region id ops draw) (top := false) ha (ro := ro) (Y := Y) (by simp)
      cases a <;> simp only [reduceCtorEq, Option.some.injEq] at h
      · subst h
        exact keepT_ok (a := .region _ _) ok k
      · subst h
        exact keepT_ok (a := .regionX _ _ _ _ _ _) ok k
  | seq a b iha ihb =>
    intro top l x h ro Y htop
    simp only [compCodeT, Option.bind_eq_some_iff, Option.some.injEq] at h
    obtain ⟨x, hx, y, hy, rfl⟩ := h
    exact .seq (iha hx htop) (ihb hy htop)
  | cond c a b iha ihb =>
    intro top l x h ro Y htop
    cases l with
    | nil => simp [compCodeT] at h
    | cons k l =>
      simp only [compCodeT, Option.bind_eq_some_iff, Option.some.injEq] at h
      obtain ⟨c', hc, x, hx, y, hy, rfl⟩ := h
      exact keepT_ok (a := .cond c' x.1 y.1) (.cond hc (iha hx htop) (ihb hy htop)) k
  | block id a ih =>
    intro top l x h ro Y htop
    cases l with
    | nil => simp [compCodeT] at h
    | cons k l =>
      simp only [compCodeT, Option.bind_eq_some_iff, Option.some.injEq] at h
      obtain ⟨x, hx, rfl⟩ := h
      exact keepT_ok (a := .block id x.1) (CodeOk.block (ih hx htop)) k
  | loop a ih =>
    intro top l x h ro Y htop
    cases l with
    | nil => simp [compCodeT] at h
    | cons k l =>
      cases k with
      | none => simp [compCodeT] at h
      | some ks =>
        simp only [compCodeT, Option.bind_eq_some_iff, Option.some.injEq] at h
        obtain ⟨x, hx, rfl⟩ := h
        exact (CodeOk.loop ((ih hx htop).keepAfter _)).keepBefore _
  | scope a ih =>
    intro top l x h ro Y htop
    simp only [compCodeT, Option.bind_eq_some_iff, Option.some.injEq] at h
    obtain ⟨x, hx, rfl⟩ := h
    exact .scope (ih hx htop)
  | exit id => intro top l x h ro Y htop; simp [compCodeT] at h; subst h; exact .exit id
  | ret => intro top l x h ro Y htop; simp [compCodeT] at h; subst h; exact .ret
  | rangeFunc g ps a b iha ihb =>
    intro top l x h ro Y htop
    cases top with
    | false => simp [compCodeT] at h; subst h; exact .stuck
    | true =>
      obtain rfl := htop rfl
      simp only [compCodeT, Option.bind_eq_some_iff] at h
      obtain ⟨g', hg, x, hx, y, hy, h⟩ := h
      split at h
      · rename_i hall
        cases h
        exact .range hg (fun ro => iha hx (by simp)) (fun ro => ihb hy (by simp)) (fun i hi => by simpa using List.all_eq_true.1 hall i hi)
      · cases h
  | _ => intro top l x h ro Y htop; simp [compCodeT] at h; subst h; exact .stuck
theorem ACallsY.of_funcT {P : Program} {Y : YEnv} {f : Nat} {af : TFunc} {args : List AV} {σ : Mem} {Q : AV → Mem → Prop} {ks : List Ann} (hm : P.follows .mixedOrders = true) (hf : compFuncT P f ks = some af) (hlen : args.length ≤ af.N)
    (h : σ.Live → AW P Y af.body.erase (retPost af.res Q) (argT args 0 .leaf) σ) : ACallsY P Y f args σ Q := by
  simp only [compFuncT, Option.bind_eq_some_iff] at hf
  obtain ⟨fn, hfn, c, hc, hf⟩ := hf
  unfold compFuncT.ifO at hf
  split at hf
  · cases hf
  · rename_i hname
    simp only [Option.bind_eq_some_iff, Option.some.injEq] at hf
    obtain ⟨b, hb, r, hr, rfl⟩ := hf
    refine ⟨⟨fn, hfn, by simp [hc], hname⟩, fun ρ w args' st hl hY => ?_⟩
    exact (ACallsY.of_body hfn hc hname (af := ⟨fn.ntmps, b.1.erase, r⟩) rfl hr (compCodeT_ok hm hb fun _ => rfl) hlen (h st.live)).2 ρ w args' st hl hY

/-! ### The condition -/
def tagOf : List (Nat × Tag) → Nat → Tag
  | [], _ => .v
  | p :: l, n => selT (Nat.beq p.1 n) p.2 (tagOf l n)
where selT (b : Bool) (x y : Tag) : Tag :=
  match b with
  | true => x
  | false => y
def outS (tg : Nat → Tag) (d : Option Nat) (v : AV) (t : Tmps) (K : Tmps → Prop) : Prop :=
  match d with
  | none => K t
  | some i => castW (tg i) v fun x => K (Tr.put t i (some ((tg i).inj x)))
theorem outS_spec {tg : Nat → Tag} {d : Option Nat} {v : AV} {t : Tmps} {K : Tmps → Prop} (h : outS tg d v t K) : K (Tmps.set t d v) := by
  cases d with
  | none => exact h
  | some i =>
    obtain ⟨x, hx, h⟩ := castW_spec h
    rw [hx]; exact h
def gS (t : Tmps) (g : Option (Nat × Bool)) (k0 k1 : Tmps → Prop) : Prop :=
  match g with
  | none => k1 t
  | some (d, want) => optW (Tr.get t d) fun v => (match v with
    | .bool b => ifB b (ifB want (k1 (Tr.put t d (some (.bool true)))) (k0 (Tr.put t d (some (.bool true)))))
        (ifB want (k0 (Tr.put t d (some (.bool false)))) (k1 (Tr.put t d (some (.bool false)))))
    | .tup [] => k0 t
    | _ => False)
def fltS (t : Tmps) (σ σ' : Mem) (X : Prop) : List (Nat × AOp) → Prop
  | [] => X
  | q :: r => fl1 t σ σ' (fltS t σ σ' X r) q.2
where
  fl1 (t : Tmps) (σ σ' : Mem) (X : Prop) (op : AOp) : Prop :=
    match op with
    | .load _ x => evW x t fun v => sameW σ σ' v X
    | .lenMap x => evW x t fun v => sameW σ σ' v X
    | .lookup _ _ _ x _ => evW x t fun v => sameW σ σ' v X
    | .conv c x => (match c with
      | .bytesStr => evW x t fun v => sameW σ σ' v X
      | _ => X)
    | _ => False
  sameW (σ σ' : Mem) (v : AV) (X : Prop) : Prop :=
    match v with
    | .ptr b _ => σ'.get b = σ.get b ∧ X
    | .slice b _ _ _ => σ'.get b = σ.get b ∧ X
    | .map b => σ'.get b = σ.get b ∧ X
    | _ => X
theorem sameW_spec {σ σ' : Mem} {v : AV} {X : Prop} (h : fltS.sameW σ σ' v X) : (match v with | .ptr b _ => σ'.get b = σ.get b | .slice b _ _ _ => σ'.get b = σ.get b | .map b => σ'.get b = σ.get b | _ => True) ∧ X := by
  cases v <;> first | exact h | exact ⟨trivial, h⟩
theorem fl1_spec {t : Tmps} {σ σ' : Mem} {X : Prop} {op : AOp} (h : fltS.fl1 t σ σ' X op) : floatW t σ σ' op ∧ X := by
  have key : ∀ {x : AOpd}, (evW x t fun v => fltS.sameW σ σ' v X) → (match x.ev t with
      | some (.ptr b _) => σ'.get b = σ.get b
      | some (.slice b _ _ _) => σ'.get b = σ.get b
      | some (.map b) => σ'.get b = σ.get b
      | _ => True) ∧ X := by
    intro x h
    obtain ⟨v, hv, h⟩ := evW_spec h
    rw [hv]
    obtain ⟨h1, h2⟩ := sameW_spec h
    refine ⟨?_, h2⟩
    cases v <;> first | exact h1 | trivial
  cases op <;> first | exact h.elim | exact key h | skip
  rename_i c x
  cases c <;> first | exact key h | exact ⟨rfl, h⟩
theorem fltS_spec {t : Tmps} {σ σ' : Mem} {X : Prop} : ∀ {l : List (Nat × AOp)}, fltS t σ σ' X l → floatsW t σ σ' l ∧ X
  | [], h => ⟨trivial, h⟩
  | _ :: _, h => by
    obtain ⟨h1, h2⟩ := fl1_spec h
    obtain ⟨h3, h4⟩ := fltS_spec h2
    exact ⟨⟨h1, h3⟩, h4⟩
def newW (σ : Mem) (id : Nat) (b : Blk) (K : Mem → Prop) : Prop := K (σ.put id (some b))
def callW (P : Program) (f : Nat) (args : List AV) (σ : Mem) (K : AV → Mem → Prop) : Prop := ACalls P f args σ K
def callvY (P : Program) (Y : YEnv) (v : AV) (args : List AV) (σ : Mem) (K : AV → Mem → Prop) : Prop :=
  match v with
  | .func f c => ACalls P f (args ++ c) σ K
  | .yld b => (match Y b with
    | some T => ∃ K', T args σ K' ∧ ∀ v σ', K' v σ' → K v σ'
    | none => False)
  | _ => False
def fillY : List Nat → List AV → Tmps → (Tmps → Prop) → Prop
  | [], l, t, K => (match l with
    | [] => K t
    | _ :: _ => False)
  | i :: is, l, t, K => (match l with
    | [] => False
    | v :: vs => fillY is vs (Tr.put t i (some v)) K)
def arg1W (l : List AV) (K : AV → Prop) : Prop :=
  match l with
  | [] => False
  | v :: vs => (match vs with
    | [] => K v
    | _ :: _ => False)
def rangeW (P : Program) (v : AV) (T : YT) (σ : Mem) (K : Mem → Prop) : Prop :=
  match v with
  | .func f c => ACallsY P (oneY σ.next T) f (.yld σ.next :: c) (σ.bump 1) fun _ σ' => K σ'
  | _ => False
def callvW (P : Program) (v : AV) (args : List AV) (σ : Mem) (K : AV → Mem → Prop) : Prop := callvY P noY v args σ K
def stepS (P : Program) (Y : YEnv) (id : Nat) (op : AOp) (t : Tmps) (σ : Mem) (k : AV → Mem → Prop) : Prop :=
  match op with
  | .call f xs => evsW xs t fun l => callW P f l σ k
  | .callv x xs => evW x t fun v => evsW xs t fun l => callvY P Y v l σ k
  | .nextM x => evW x t fun v => nextMW σ v k
  | op => ifB op.eff (eopS id op t σ k) (nopS id op t σ (fun v => k v σ) fun v b => newW σ id b fun σ' => k v σ')
def opsS (P : Program) (Y : YEnv) (tg : Nat → Tag) (base : Nat) (K : Tmps → Mem → Prop) : List RegE → Tmps → Mem → Prop
  | [], t, σ => K t σ
  | p :: rest, t, σ => gS t p.o.g (fun t => opsS P Y tg base K rest (Tmps.set t p.o.d (.tup [])) σ)
      (fun t => stepS P Y (base + p.i) p.o.op t σ fun v σ' => fltS t σ σ' (outS tg p.o.d v t fun t => opsS P Y tg base K rest t σ') p.fl)
def thenS (K : Tmps → Mem → Prop) (Q : APost) : APost
  | .normal, t, σ => K t σ
  | e, t, σ => Q e t σ
def inS (id : Nat) (Q : APost) : APost
  | .exit id', t, σ => ifB (Nat.beq id' id) (Q .normal t σ) (Q (.exit id') t σ)
  | e, t, σ => Q e t σ
def getK (tg : Nat → Tag) : (ks : List Nat) → Tmps → Fn (ks.map tg) → Mem → Prop
  | [], _, k, σ => k σ
  | i :: ks, t, k, σ => optW (Tr.get t i) fun v => castW (tg i) v fun x => getK tg ks t (k x) σ
def lamK (tg : Nat → Tag) (t0 : Tmps) : (ks : List Nat) → (Tmps → Mem → Prop) → Fn (ks.map tg)
  | [], G => fun σ => G t0 σ
  | i :: ks, G => fun x => lamK tg t0 ks fun t σ => G (Tr.put t i (some ((tg i).inj x))) σ
def inL (l : List Nat) (n : Nat) : Bool :=
  match l with
  | [] => false
  | m :: l => (match Nat.beq m n with
    | true => true
    | false => inL l n)
def allB {α : Type} (f : α → Bool) : List α → Bool
  | [] => true
  | a :: l => (match f a with
    | true => allB f l
    | false => false)
def andS (a b : Bool) : Bool :=
  match a with
  | true => b
  | false => false
def dFree (cs : List Nat) (p : RegE) : Bool :=
  match p.o.d with
  | none => true
  | some d => (match inL cs d with
    | true => false
    | false => true)
def keeps (cs : List Nat) : TCode → Bool
  | .skip => true
  | .region _ ops => allB (dFree cs) ops
  | .seq a b => andS (keeps cs a) (keeps cs b)
  | .cond _ a b => andS (keeps cs a) (keeps cs b)
  | .block _ a => keeps cs a
  | .loop cs' ks a => andS (allB (fun c => inL (ks ++ cs') c) cs) (keeps cs a)
  | .exit _ => true
  | .ret => true
  | .scope a => keeps cs a
  | .join cs' ks a => andS (allB (fun c => inL (ks ++ cs') c) cs) (keeps cs a)
  | .range .. => true
  | .regionX _ ops p q _ _ => andS (allB (dFree cs) ops) (andS (dFree cs p) (dFree cs q))
  | .stuck => true
def bodyS (K : AV → Mem → Prop) : APost
  | .normal, _, σ => K (.bool true) σ
  | _, _, _ => False
def noS : APost := fun _ _ _ => False
def sem (P : Program) (tg : Nat → Tag) (Y : YEnv) : TCode → APost → Tmps → Mem → Prop
  | .skip, Q, t, σ => Q .normal t σ
  | .region n ops, Q, t, σ => opsS P Y tg σ.next (fun t σ => Q .normal t σ) ops t (σ.bump n)
  | .seq x y, Q, t, σ => sem P tg Y x (thenS (fun t σ => sem P tg Y y Q t σ) Q) t σ
  | .cond c x y, Q, t, σ => evW c t fun v => (match v with
    | .bool b => ifB b (sem P tg Y x Q t σ) (sem P tg Y y Q t σ)
    | _ => False)
  | .block id x, Q, t, σ => sem P tg Y x (inS id Q) t σ
  | .loop cs ks x, Q, t, σ => ifB (keeps cs x) (getK tg ks t (loopF (ks.map tg) fun next => lamK tg (Tmps.keep t cs) ks fun t σ => sem P tg Y x (thenS (fun t' σ' => getK tg ks t' next σ') Q) t σ) σ) False
  | .exit id, Q, t, σ => Q (.exit id) t σ
  | .ret, Q, t, σ => Q .ret t σ
  | .scope x, Q, t, σ => sem P tg Y x Q t σ
  | .join cs ks x, Q, t, σ => ifB (keeps cs x) (joinF (ks.map tg) (fun k => sem P tg Y x (thenS (fun t' σ' => getK tg ks t' k σ') Q) t σ) (lamK tg (Tmps.keep t cs) ks fun t σ => Q .normal t σ)) False
  | .range g ps a b, Q, t, σ => evW g t fun v => rangeW P v (fun args σ' K => fillY ps args t fun t' => sem P tg noY a (thenS (fun t1 σ1 => sem P tg noY b (bodyS K) t1 σ1) noS) t' σ') σ fun σ' => Q .normal t σ'
  | .regionX n ops p q fq fp, Q, t, σ => opsS P Y tg σ.next (fun t' σ' => opsS P Y tg σ.next (fun t σ => Q .normal t σ) [p, q] t' σ' ∧ opsS P Y tg σ.next (fun t σ => Q .normal t σ) [⟨q.i, q.o, fq⟩, ⟨p.i, p.o, fp⟩] t' σ') ops t (σ.bump n)
  | .stuck, _, _, _ => False

/-! ### It is right -/
def mkK (tg : Nat → Tag) (t0 : Tmps) : (ks : List Nat) → Ar (ks.map tg) → Tmps
  | [], _ => t0
  | i :: ks, a => Tr.put (mkK tg t0 ks a.2) i (some ((tg i).inj a.1))
theorem getK_spec {tg : Nat → Tag} {cs : List Nat} : ∀ {ks : List Nat} {t : Tmps} {k : Fn (ks.map tg)} {σ : Mem}, getK tg ks t k σ → ∃ a : Ar (ks.map tg), Tmps.keep t (ks ++ cs) = mkK tg (Tmps.keep t cs) ks a ∧ Fn.ap (ks.map tg) k a σ
  | [], t, k, σ, h => ⟨(), rfl, h⟩
  | i :: ks, t, k, σ, h => by
    obtain ⟨v, hv, h⟩ := optW_spec h
    obtain ⟨x, hx, h⟩ := castW_spec h
    obtain ⟨a, ha, h⟩ := getK_spec (ks := ks) h
    refine ⟨(x, a), ?_, h⟩
    rw [List.cons_append, Tmps.keep, hv, hx, ha]; rfl
theorem lamK_ap {tg : Nat → Tag} {t0 : Tmps} : ∀ {ks : List Nat} {G : Tmps → Mem → Prop} {a : Ar (ks.map tg)} {σ : Mem}, Fn.ap (ks.map tg) (lamK tg t0 ks G) a σ → G (mkK tg t0 ks a) σ
  | [], G, a, σ, h => h
  | i :: ks, G, a, σ, h => lamK_ap (ks := ks) (G := fun t σ => G (Tr.put t i (some ((tg i).inj a.1))) σ) h
theorem inL_mem {n : Nat} : ∀ {l : List Nat}, inL l n = true ↔ n ∈ l
  | [] => by simp [inL]
  | m :: l => by
    unfold inL
    cases h : Nat.beq m n with
    | true => have := Nat.eq_of_beq_eq_true h; subst this; simp
    | false =>
      have hne : n ≠ m := fun e => by subst e; rw [show Nat.beq n n = true from by simp] at h; cases h
      simp [inL_mem (l := l), hne]
theorem allB_all {α : Type} {f : α → Bool} : ∀ {l : List α}, allB f l = true → ∀ a ∈ l, f a = true
  | [], _, a, h => by simp at h
  | b :: l, h, a, ha => by
    unfold allB at h
    split at h
    · rename_i hb
      rcases List.mem_cons.1 ha with rfl | ha
      · exact hb
      · exact allB_all h a ha
    · cases h
theorem allB_of {α : Type} {f : α → Bool} : ∀ {l : List α}, (∀ a ∈ l, f a = true) → allB f l = true
  | [], _ => rfl
  | b :: l, h => by
    unfold allB
    rw [h b (by simp)]
    exact allB_of fun a ha => h a (by simp [ha])
theorem andS_and {a b : Bool} (h : andS a b = true) : a = true ∧ b = true := by
  cases a
  · cases h
  · exact ⟨rfl, h⟩
def Agree (cs : List Nat) (t t' : Tmps) : Prop := ∀ c ∈ cs, Tr.get t' c = Tr.get t c
theorem Agree.refl (cs : List Nat) (t : Tmps) : Agree cs t t := fun _ _ => rfl
theorem Agree.trans {cs : List Nat} {t t' t'' : Tmps} (h : Agree cs t t') (h' : Agree cs t' t'') : Agree cs t t'' := fun c hc => (h' c hc).trans (h c hc)
theorem Tmps.get_keep_mem (t : Tmps) : ∀ (ks : List Nat) (c : Nat), c ∈ ks → Tr.get (Tmps.keep t ks) c = Tr.get t c
  | [], c, h => by simp at h
  | k :: ks, c, h => by
    rw [Tmps.keep, Tr.get_put]
    split
    · rename_i e; rw [e]
    · rename_i e
      rcases List.mem_cons.1 h with h | h
      · exact absurd h e
      · exact Tmps.get_keep_mem t ks c h
theorem Agree.keep {cs ks : List Nat} (h : allB (fun c => inL ks c) cs = true) (t : Tmps) : Agree cs t (Tmps.keep t ks) :=
  fun c hc => Tmps.get_keep_mem t ks c (inL_mem.1 (allB_all h c hc))
theorem Agree.keep_eq {t t' : Tmps} : ∀ {cs : List Nat}, Agree cs t t' → Tmps.keep t' cs = Tmps.keep t cs
  | [], _ => rfl
  | c :: cs, h => by
    rw [Tmps.keep, Tmps.keep, h c (by simp), Agree.keep_eq (cs := cs) fun d hd => h d (by simp [hd])]
theorem Agree.set {cs : List Nat} {p : RegE} (h : dFree cs p = true) (t : Tmps) (v : AV) : Agree cs t (Tmps.set t p.o.d v) := by
  unfold dFree at h
  intro c hc
  cases hd : p.o.d with
  | none => rfl
  | some d =>
    rw [hd] at h
    simp only at h
    split at h
    · cases h
    · rename_i hn
      have hne : c ≠ d := fun e => by subst e; rw [inL_mem.2 hc] at hn; cases hn
      exact Tr.get_put_ne t hne _
theorem AOps.frame {P : Program} {Y : YEnv} {base : Nat} {cs : List Nat} : ∀ {l : List RegE} {K : Tmps → Mem → Prop} {t t0 : Tmps} {σ : Mem}, allB (dFree cs) l = true → Agree cs t0 t → AOps P Y base K l t σ → AOps P Y base (fun t' σ' => K t' σ' ∧ Agree cs t0 t') l t σ
  | [], K, t, t0, σ, _, ha, h => ⟨h, ha⟩
  | p :: l, K, t, t0, σ, hf, ha, h => by
    have h1 := allB_all hf p (by simp)
    have h2 : allB (dFree cs) l = true := by
      unfold allB at hf
      rw [h1] at hf; exact hf
    simp only [AOps] at h ⊢
    split at h
    · exact AStep.mono h fun v σ' hk => ⟨hk.1, AOps.frame h2 (ha.trans (.set h1 t v)) hk.2⟩
    · exact AOps.frame h2 (ha.trans (.set h1 t _)) h
    · exact h.elim
theorem AW.frame {P : Program} {Y : YEnv} {cs : List Nat} : ∀ {x : TCode} {Q : APost} {t t0 : Tmps} {σ : Mem}, keeps cs x = true → Agree cs t0 t → AW P Y x.erase Q t σ → AW P Y x.erase (fun e t' σ' => Q e t' σ' ∧ Agree cs t0 t') t σ := by
  intro x
  induction x with
  | skip => exact fun _ ha h => ⟨h, ha⟩
  | region n ops => exact fun hf ha h => AOps.frame hf ha h
  | seq a b iha ihb =>
    intro Q t t0 σ hf ha h
    obtain ⟨h1, h2⟩ := andS_and hf
    show AW P Y a.erase (APost.then (fun t1 σ1 => AW P Y b.erase (fun e t' σ' => Q e t' σ' ∧ Agree cs t0 t') t1 σ1) (fun e t' σ' => Q e t' σ' ∧ Agree cs t0 t')) t σ
    refine AW.mono (fun e t1 σ1 _ hq => ?_) (iha h1 ha (show AW P Y a.erase _ t σ from h))
    obtain ⟨hq, ha1⟩ := hq
    cases e with
    | normal => exact ihb h2 ha1 hq
    | _ => exact ⟨hq, ha1⟩
  | cond c a b iha ihb =>
    intro Q t t0 σ hf ha h
    obtain ⟨h1, h2⟩ := andS_and hf
    simp only [TCode.erase, AW] at h ⊢
    split at h
    · exact ⟨fun e => iha h1 ha (h.1 e), fun e => ihb h2 ha (h.2 e)⟩
    · exact h.elim
  | block id a ih =>
    intro Q t t0 σ hf ha h
    show AW P Y a.erase (APost.inBlock id fun e t' σ' => Q e t' σ' ∧ Agree cs t0 t') t σ
    refine AW.mono (fun e t1 σ1 _ hq => ?_) (ih hf ha (show AW P Y a.erase _ t σ from h))
    obtain ⟨hq, ha1⟩ := hq
    cases e with
    | exit id' =>
      simp only [APost.inBlock] at hq ⊢
      split
      · rename_i e; rw [if_pos e] at hq; exact ⟨hq, ha1⟩
      · rename_i e; rw [if_neg e] at hq; exact ⟨hq, ha1⟩
    | _ => exact ⟨hq, ha1⟩
  | loop cs' ks a ih =>
    intro Q t t0 σ hf ha h
    obtain ⟨h1, h2⟩ := andS_and hf
    obtain ⟨I, μ, h0, hI⟩ := (show AW P Y (.loop (.seq a.erase (.forget (ks ++ cs')))) Q (Tmps.keep t (ks ++ cs')) σ from h)
    show AW P Y (.loop (.seq a.erase (.forget (ks ++ cs')))) _ (Tmps.keep t (ks ++ cs')) σ
    refine ⟨fun t σ => I t σ ∧ Agree cs t0 t, μ, ⟨h0, ha.trans (.keep h1 t)⟩, fun t1 σ1 hi => ?_⟩
    have hb := hI t1 σ1 hi.1
    show AW P Y a.erase (APost.then (fun t2 σ2 => AW P Y (.forget (ks ++ cs')) (APost.then (fun t' σ' => (I t' σ' ∧ Agree cs t0 t') ∧ μ t' σ' < μ t1 σ1) fun e t' σ' => Q e t' σ' ∧ Agree cs t0 t') t2 σ2)
      (APost.then (fun t' σ' => (I t' σ' ∧ Agree cs t0 t') ∧ μ t' σ' < μ t1 σ1) fun e t' σ' => Q e t' σ' ∧ Agree cs t0 t')) t1 σ1
    refine AW.mono (fun e t2 σ2 _ hq => ?_) (ih h2 hi.2 (show AW P Y a.erase _ t1 σ1 from hb))
    obtain ⟨hq, ha2⟩ := hq
    cases e with
    | normal => exact ⟨⟨hq.1, ha2.trans (.keep h1 t2)⟩, hq.2⟩
    | _ => exact ⟨hq, ha2⟩
  | exit id => exact fun _ ha h => ⟨h, ha⟩
  | ret => exact fun _ ha h => ⟨h, ha⟩
  | scope a ih => exact fun hf ha h => ih hf ha h
  | join cs' ks a ih =>
    intro Q t t0 σ hf ha h
    obtain ⟨h1, h2⟩ := andS_and hf
    show AW P Y a.erase (APost.then (fun t1 σ1 => AW P Y (.forget (ks ++ cs')) (fun e t' σ' => Q e t' σ' ∧ Agree cs t0 t') t1 σ1) (fun e t' σ' => Q e t' σ' ∧ Agree cs t0 t')) t σ
    refine AW.mono (fun e t1 σ1 _ hq => ?_) (ih h2 ha (show AW P Y a.erase _ t σ from h))
    obtain ⟨hq, ha1⟩ := hq
    cases e with
    | normal => exact ⟨hq, ha1.trans (.keep h1 t1)⟩
    | _ => exact ⟨hq, ha1⟩
  | range g ps a b _ _ =>
    intro Q t t0 σ _ ha h
    simp only [TCode.erase, AW] at h ⊢
    split at h
    · exact ACallsY.mono h fun _ σ' hq => ⟨hq, ha⟩
    · exact h.elim
  | regionX n ops p q fq fp =>
    intro Q t t0 σ hf ha h
    obtain ⟨h1, h2⟩ := andS_and hf
    obtain ⟨h2, h3⟩ := andS_and h2
    have two : ∀ (a b : RegE), dFree cs a = true → dFree cs b = true → allB (dFree cs) [a, b] = true := by
      intro a b ha hb
      simp only [allB, ha, hb]
    refine AOps.mono (fun t1 σ1 hq => ?_) (AOps.frame h1 ha (show AOps P Y σ.next _ ops t (σ.bump n) from h))
    exact ⟨AOps.frame (two p q h2 h3) hq.2 hq.1.1, AOps.frame (two ⟨q.i, q.o, fq⟩ ⟨p.i, p.o, fp⟩ h3 h2) hq.2 hq.1.2⟩
  | stuck => exact fun _ _ h => h
section
variable {P : Program} {tg : Nat → Tag} {t : Tmps} {σ : Mem}
theorem stepS_spec {Y : YEnv} {id : Nat} {op : AOp} {k k' : AV → Mem → Prop} (hk : ∀ v σ, k v σ → k' v σ) (h : stepS P Y id op t σ k) : AStep P Y id op t σ k' := by
  have other : op.isCall = false → op.isNext = false → AStep P Y id op t σ k' := by
    intro hno hnn
    have e1 : stepS P Y id op t σ k = ifB op.eff (eopS id op t σ k) (nopS id op t σ (fun v => k v σ) fun v b => newW σ id b fun σ' => k v σ') := by
      cases op <;> first | rfl | (cases hno; done) | (cases hnn; done)
    have e2 : AStep P Y id op t σ k' = (if op.eff then (match eop id op t σ with
        | some r => k' r.1 r.2
        | none => False)
      else match nop id op t σ with
        | some r => k' r.1 (σ.add id r.2)
        | none => False) := by
      cases op <;> first | rfl | (cases hno; done) | (cases hnn; done)
    rw [e1] at h
    rw [e2]
    cases he : op.eff with
    | true =>
      rw [he] at h
      obtain ⟨r, hr, h⟩ := eopS_spec (show eopS id op t σ k from h)
      rw [if_pos rfl, hr]
      exact hk _ _ h
    | false =>
      rw [he] at h
      obtain ⟨⟨v, ob⟩, hr, h⟩ := nopS_spec (show nopS id op t σ (fun v => k v σ) (fun v b => newW σ id b fun σ' => k v σ') from h)
      rw [if_neg (by simp), hr]
      cases ob with
      | none => exact hk _ _ h
      | some b => exact hk _ _ h
  cases op
  case call f xs =>
    obtain ⟨l, hl, h⟩ := evsW_spec h
    simp only [AStep, hl]
    exact ACalls.mono h hk
  case callv x xs =>
    obtain ⟨v, hv, h⟩ := evW_spec h
    obtain ⟨l, hl, h⟩ := evsW_spec h
    cases v with
    | func f c =>
      simp only [AStep, hv, hl]
      exact ACalls.mono h hk
    | yld b =>
      simp only [callvY] at h
      simp only [AStep, hv, hl]
      cases hY : Y b with
      | none => rw [hY] at h; exact h.elim
      | some T =>
        rw [hY] at h
        obtain ⟨K', h1, h2⟩ := h
        exact ⟨K', h1, fun v σ' h => hk _ _ (h2 v σ' h)⟩
    | _ => exact h.elim
  case nextM x =>
    obtain ⟨v, hv, h⟩ := evW_spec h
    unfold nextMW at h
    split at h
    · simp only [AStep, hv]
      split at h
      · rename_i hq
        simp only [hq]
        exact hk _ _ h
      · rename_i hq
        split at h
        · rename_i hq2
          simp only [hq, hq2]
          obtain ⟨h1, h2, h3, h4⟩ := h
          exact ⟨h1, h2, fun hh => hk _ _ (h3 hh), fun e he hn => hk _ _ (h4 e he hn)⟩
        · exact h.elim
      · exact h.elim
    · exact h.elim
  all_goals exact other rfl rfl
theorem opsS_spec {Y : YEnv} {base : Nat} {K : Tmps → Mem → Prop} : ∀ {l : List RegE} {t : Tmps} {σ : Mem}, opsS P Y tg base K l t σ → AOps P Y base K l t σ
  | [], t, σ, h => h
  | p :: l, t, σ, h => by
    simp only [opsS] at h
    simp only [AOps]
    have step : ∀ {t : Tmps}, (stepS P Y (base + p.i) p.o.op t σ fun v σ' => fltS t σ σ' (outS tg p.o.d v t fun t => opsS P Y tg base K l t σ') p.fl) →
        AStep P Y (base + p.i) p.o.op t σ fun v σ' => Floats base t σ σ' p.fl ∧ AOps P Y base K l (Tmps.set t p.o.d v) σ' := by
      intro t h
      refine stepS_spec (fun v σ' h => ?_) h
      obtain ⟨h1, h2⟩ := fltS_spec h
      exact ⟨floatsW_spec h1, opsS_spec (outS_spec h2)⟩
    unfold gS at h
    unfold gval
    have same : ∀ {d : Nat} {b : Bool}, Tr.get t d = some (.bool b) → Tr.put t d (some (.bool b)) = t := fun h => Tr.put_same h
    split at h
    · rename_i hg; rw [hg]; exact step h
    · rename_i d want hg
      rw [hg]
      simp only
      obtain ⟨v, hb, h⟩ := optW_spec h
      rw [hb]
      split at h
      · rename_i b
        simp only
        cases b <;> cases want <;> simp only [ifB] at h <;> rw [same hb] at h
        · exact step h
        · exact opsS_spec h
        · exact opsS_spec h
        · exact step h
      · exact opsS_spec h
      · exact h.elim
theorem thenS_eq {K K' : Tmps → Mem → Prop} {Q Q' : APost} (hK : ∀ t σ, K t σ → K' t σ) (hQ : ∀ e t σ, (∀ l, e ≠ .goto l) → Q e t σ → Q' e t σ) (e : Exit) (t : Tmps) (σ : Mem) (he : ∀ l, e ≠ .goto l) (h : thenS K Q e t σ) : APost.then K' Q' e t σ := by
  cases e with
  | normal => exact hK _ _ h
  | _ => exact hQ _ _ _ he h
theorem ACallsY.weak {P : Program} {b f : Nat} {T T' : YT} {args : List AV} {σ : Mem} {Q : AV → Mem → Prop} (h : ACallsY P (oneY b T) f args σ Q) (hT : ∀ args σ K, T args σ K → T' args σ K) : ACallsY P (oneY b T') f args σ Q := by
  refine ⟨h.1, fun ρ w args' st hl hY => h.2 ρ w args' st hl ?_⟩
  intro b' T1 hb
  unfold oneY at hb
  split at hb
  · rename_i e
    injection hb with hb
    subst hb
    obtain ⟨l, o, m, r, h1, h2, h3⟩ := hY b' T' (by unfold oneY; rw [if_pos e])
    exact ⟨l, o, m, r, h1, h2, fun ρ1 σ1 w1 a a' K e1 e2 e3 e4 e5 => h3 ρ1 σ1 w1 a a' K e1 e2 e3 e4 (hT _ _ _ e5)⟩
  · cases hb
theorem fillY_spec : ∀ {ps : List Nat} {args : List AV} {t : Tmps} {K : Tmps → Prop}, fillY ps args t K → args.length = ps.length ∧ K (Tmps.fill t ps args)
  | [], [], _, _, h => ⟨rfl, h⟩
  | [], _ :: _, _, _, h => h.elim
  | _ :: _, [], _, _, h => h.elim
  | i :: is, v :: vs, t, K, h => by
    obtain ⟨h1, h2⟩ := fillY_spec (ps := is) (args := vs) h
    exact ⟨by simp [h1], h2⟩
theorem sem_spec : ∀ {c : TCode} {Y : YEnv} {Q Q' : APost} {t : Tmps} {σ : Mem}, (∀ e t σ, (∀ l, e ≠ .goto l) → Q e t σ → Q' e t σ) → sem P tg Y c Q t σ → AW P Y c.erase Q' t σ := by
  intro c
  induction c with
  | skip => exact fun hQ h => hQ _ _ _ (by simp) h
  | region n ops => exact fun hQ h => AOps.mono (fun t σ h => hQ _ _ _ (by simp) h) (opsS_spec (P := P) (tg := tg) h)
  | seq x y ihx ihy => exact fun hQ h => ihx (thenS_eq (fun t σ h => ihy hQ h) hQ) h
  | cond c x y ihx ihy =>
    intro Y Q Q' t σ hQ h
    obtain ⟨v, hv, h⟩ := evW_spec h
    simp only [TCode.erase, AW, hv]
    cases v with
    | bool b => cases b with
      | true => exact ⟨fun _ => ihx hQ h, fun e => by cases e⟩
      | false => exact ⟨fun e => (by cases e), fun _ => ihy hQ h⟩
    | _ => exact h.elim
  | block id x ih =>
    intro Y Q Q' t σ hQ h
    refine ih (fun e t σ he h => ?_) h
    cases e with
    | exit id' =>
      simp only [inS, APost.inBlock] at h ⊢
      by_cases hid : id' = id
      · subst hid
        rw [if_pos rfl]
        rw [show Nat.beq id' id' = true from by simp] at h
        exact hQ _ _ _ (by simp) h
      · rw [if_neg hid]
        rw [show Nat.beq id' id = false from Bool.eq_false_iff.2 fun e => hid (Nat.eq_of_beq_eq_true e)] at h
        exact hQ _ _ _ (by simp) h
    | _ => exact hQ _ _ _ he h
  | loop cs ks x ih =>
    intro Y Q Q' t σ hQ h
    obtain ⟨hkeep, h⟩ := ifB_and h
    obtain ⟨a, ha, h⟩ := getK_spec (cs := cs) h
    rw [loopF, Fn.ap_lam] at h
    obtain ⟨ι, I, μ, i0, h0, hI⟩ := h
    show AW P Y (.loop (.seq x.erase (.forget (ks ++ cs)))) Q' (Tmps.keep t (ks ++ cs)) σ
    refine AW.loop (ι := ι) (fun i t1 σ => (∃ a, t1 = mkK tg (Tmps.keep t cs) ks a ∧ I i a σ) ∧ Agree cs t t1) μ i0 ⟨⟨a, ha, h0⟩, .keep ?_ t⟩ ?_
    · exact allB_of fun c hc => inL_mem.2 (by simp [hc])
    rintro i t1 σ1 ⟨⟨a1, rfl, h1⟩, hag⟩
    have hb := lamK_ap (hI i a1 σ1 h1)
    show AW P Y x.erase (APost.then (fun t2 σ => AW P Y (.forget (ks ++ cs)) (APost.then (fun t' σ' => ∃ j, ((∃ a, t' = mkK tg (Tmps.keep t cs) ks a ∧ I j a σ') ∧ Agree cs t t') ∧ μ j < μ i) Q') t2 σ) (APost.then (fun t' σ' => ∃ j, ((∃ a, t' = mkK tg (Tmps.keep t cs) ks a ∧ I j a σ') ∧ Agree cs t t') ∧ μ j < μ i) Q')) (mkK tg (Tmps.keep t cs) ks a1) σ1
    refine AW.mono (fun e t2 σ2 he hq => ?_) (AW.frame hkeep hag (ih (fun e t2 σ2 he h => h) hb))
    obtain ⟨h, ha2⟩ := hq
    cases e with
    | normal =>
      obtain ⟨a2, e2, h2⟩ := getK_spec (cs := cs) (show getK tg ks t2 _ σ2 from h)
      rw [Fn.ap_lam] at h2
      obtain ⟨j, hj, hlt⟩ := h2
      refine ⟨j, ⟨⟨a2, ?_, hj⟩, ha2.trans (.keep (allB_of fun c hc => inL_mem.2 (by simp [hc])) t2)⟩, hlt⟩
      rw [e2, ha2.keep_eq]
    | _ => exact hQ _ _ _ he h
  | exit id => exact fun hQ h => hQ _ _ _ (by simp) h
  | ret => exact fun hQ h => hQ _ _ _ (by simp) h
  | scope x ih => exact fun hQ h => ih hQ h
  | join cs ks x ih =>
    intro Y Q Q' t σ hQ h
    obtain ⟨hkeep, h⟩ := ifB_and h
    obtain ⟨R, h1, h2⟩ := h
    show AW P Y x.erase (APost.then (fun t1 σ1 => AW P Y (.forget (ks ++ cs)) Q' t1 σ1) Q') t σ
    refine AW.mono (fun e t2 σ2 he hq => ?_) (AW.frame hkeep (.refl cs t) (ih (fun e t2 σ2 he h => h) h1))
    obtain ⟨h, ha2⟩ := hq
    cases e with
    | normal =>
      obtain ⟨a2, e2, h3⟩ := getK_spec (cs := cs) (show getK tg ks t2 R σ2 from h)
      have := lamK_ap (h2 a2 σ2 h3)
      refine hQ _ _ _ (by simp) ?_
      show Q .normal (Tmps.keep t2 (ks ++ cs)) σ2
      rw [e2, ha2.keep_eq]; exact this
    | _ => exact hQ _ _ _ he h
  | range g ps a b iha ihb =>
    intro Y Q Q' t σ hQ h
    obtain ⟨v, hv, h⟩ := evW_spec h
    simp only [TCode.erase, AW, hv]
    cases v <;> first | exact h.elim | skip
    refine ACallsY.mono (ACallsY.weak h fun args σ' K hT => ?_) fun _ σ' hq => hQ _ _ _ (by simp) hq
    obtain ⟨h1, h2⟩ := fillY_spec hT
    refine ⟨h1, iha (thenS_eq (fun t1 σ1 h3 => ihb (fun e t2 σ2 _ h4 => ?_) h3) fun e t1 σ1 _ h3 => h3) h2⟩
    cases e <;> first | exact h4 | exact h4.elim
  | regionX n ops p q fq fp =>
    intro Y Q Q' t σ hQ h
    refine AOps.mono (fun t1 σ1 h => ?_) (opsS_spec (P := P) (tg := tg) h)
    exact ⟨AOps.mono (fun t σ h => hQ _ _ _ (by simp) h) (opsS_spec (P := P) (tg := tg) h.1), AOps.mono (fun t σ h => hQ _ _ _ (by simp) h) (opsS_spec (P := P) (tg := tg) h.2)⟩
  | stuck => exact fun hQ h => h

def resS (t : Tmps) (σ : Mem) : List ARes → (List AV → Prop) → Prop
  | [], k => k []
  | .tmp i :: l, k => optW (Tr.get t i) fun v => resS t σ l fun vs => k (v :: vs)
  | .cell i q :: l, k => optW (Tr.get t i) fun p => (match q with
    | none => ldW σ p fun v => resS t σ l fun vs => k (v :: vs)
    | some n => ldnW n σ p fun v => resS t σ l fun vs => k (v :: vs))
theorem resS_spec : ∀ {l : List ARes} {k : List AV → Prop}, resS t σ l k → ∃ r, evr t σ l = some r ∧ k r
  | [], k, h => ⟨[], rfl, h⟩
  | .tmp i :: l, k, h => by
    obtain ⟨v, hv, h⟩ := optW_spec h
    obtain ⟨r, hr, h⟩ := resS_spec h
    exact ⟨v :: r, by simp [evr, ARes.ev, hv, hr], h⟩
  | .cell i q :: l, k, h => by
    obtain ⟨v, hv, h⟩ := optW_spec h
    cases q with
    | none =>
      simp only [ldW] at h
      cases v <;> first | exact h.elim | skip
      obtain ⟨a, ha, h⟩ := optW_spec h
      obtain ⟨r, hr, h⟩ := resS_spec h
      exact ⟨a :: r, by simp [evr, ARes.ev, hv, cell_cells ha, hr], h⟩
    | some n =>
      simp only [ldnW] at h
      cases v <;> first | exact h.elim | skip
      obtain ⟨c, hc, h⟩ := optW_spec h
      obtain ⟨r, hr, h⟩ := resS_spec h
      exact ⟨.agg c :: r, by simp [evr, ARes.ev, hv, hc, hr], h⟩
def endS (res : List ARes) (Q : AV → Mem → Prop) : APost
  | .normal, t, σ => resS t σ res fun l => Q (packA l) σ
  | .ret, t, σ => resS t σ res fun l => Q (packA l) σ
  | _, _, _ => False
theorem endS_spec {res : List ARes} {Q : AV → Mem → Prop} (e : Exit) (t : Tmps) (σ : Mem) (h : endS res Q e t σ) : retPost res Q e t σ := by
  cases e with
  | normal =>
    obtain ⟨r, hr, h⟩ := resS_spec (show resS t σ res _ from h)
    simp only [retPost, hr]; exact h
  | ret =>
    obtain ⟨r, hr, h⟩ := resS_spec (show resS t σ res _ from h)
    simp only [retPost, hr]; exact h
  | _ => exact h.elim
def semF (P : Program) (f : Nat) (ks : List Ann) (tg : List (Nat × Tag)) (args : List AV) (σ : Mem) (Q : AV → Mem → Prop) : Prop :=
  match compFuncT P f ks with
  | none => False
  | some af => ifB (Nat.ble args.length af.N) (sem P (tagOf tg) noY af.body (endS af.res Q) (argT args 0 .leaf) σ) False
def fnOkB (P : Program) (f : Nat) : Bool :=
  match P.funcs[f]? with
  | none => false
  | some fn => fn.body.isSome && !(fn.name == "runtime.NumGoroutine")
theorem fnOkB_spec {f : Nat} (h : fnOkB P f = true) : FnOk P f := by
  unfold fnOkB at h
  split at h
  · cases h
  · rename_i fn hf
    simp only [Bool.and_eq_true, Bool.not_eq_true'] at h
    exact ⟨fn, hf, by cases hb : fn.body <;> simp_all, h.2⟩
theorem ACalls.of_sem {f : Nat} {args : List AV} {Q : AV → Mem → Prop} (ks : List Ann) (tg : List (Nat × Tag)) {X : Prop} (hm : P.follows .mixedOrders = true) (hf : fnOkB P f = true) (he : semF P f ks tg args σ Q = X) (h : σ.Live → X) : ACalls P f args σ Q := by
  unfold semF at he
  split at he
  · refine ⟨fnOkB_spec hf, fun ρ w args' st hl => ?_⟩
    exact (he.mpr (h st.live) : False).elim
  · rename_i af haf
    cases hb : Nat.ble args.length af.N with
    | true =>
      rw [hb] at he
      exact (ACallsY.of_funcT hm haf (Nat.le_of_ble_eq_true hb) fun hl => sem_spec (fun e t σ _ h => endS_spec e t σ h) (show sem P (tagOf tg) noY af.body (endS af.res Q) (argT args 0 .leaf) σ from he.mpr (h hl))).plain
    | false =>
      rw [hb] at he
      refine ⟨fnOkB_spec hf, fun ρ w args' st hl => ?_⟩
      exact (he.mpr (h st.live) : False).elim
def semY (P : Program) (Y : YEnv) (f : Nat) (ks : List Ann) (tg : List (Nat × Tag)) (args : List AV) (σ : Mem) (Q : AV → Mem → Prop) : Prop :=
  match compFuncT P f ks with
  | none => False
  | some af => ifB (Nat.ble args.length af.N) (sem P (tagOf tg) Y af.body (endS af.res Q) (argT args 0 .leaf) σ) False
theorem ACallsY.of_sem {Y : YEnv} {f : Nat} {args : List AV} {Q : AV → Mem → Prop} (ks : List Ann) (tg : List (Nat × Tag)) {X : Prop} (hm : P.follows .mixedOrders = true) (hf : fnOkB P f = true) (he : semY P Y f ks tg args σ Q = X) (h : σ.Live → X) : ACallsY P Y f args σ Q := by
  unfold semY at he
  split at he
  · refine ⟨fnOkB_spec hf, fun ρ w args' st hl => ?_⟩
    exact (he.mpr (h st.live) : False).elim
  · rename_i af haf
    cases hb : Nat.ble args.length af.N with
    | true =>
      rw [hb] at he
      exact ACallsY.of_funcT hm haf (Nat.le_of_ble_eq_true hb) fun hl => sem_spec (fun e t σ _ h => endS_spec e t σ h) (show sem P (tagOf tg) Y af.body (endS af.res Q) (argT args 0 .leaf) σ from he.mpr (h hl))
    | false =>
      rw [hb] at he
      refine ⟨fnOkB_spec hf, fun ρ w args' st hl => ?_⟩
      exact (he.mpr (h st.live) : False).elim
end
end Go.Vit
end

section
namespace Go.Vit
abbrev tI : Tag := .i .i64
def iW (n : Int) (K : Int → Prop) : Prop := wrW .i64 n K
def catW (a b : ByteArray) (K : ByteArray → Prop) : Prop := a.size + b.size ≤ 9223372036854775807 ∧ K (a ++ b)
def nfW (off : Nat) (v : AV) (K : AV → Prop) : Prop := nchkW v fun p => fldW off p K
def ldI (σ : Mem) (v : AV) (K : Int → Prop) : Prop := ldW σ v fun a => castI .i64 a K
def ldU (σ : Mem) (v : AV) (K : Int → Prop) : Prop := ldW σ v fun a => castI .u8 a K
def ldB (σ : Mem) (v : AV) (K : Bool → Prop) : Prop := ldW σ v fun a => castB a K
def ldS (σ : Mem) (v : AV) (K : ByteArray → Prop) : Prop := ldW σ v fun a => castS a K
def lfW (off : Nat) (σ : Mem) (v : AV) (K : AV → Prop) : Prop := nchkW v fun p => fldW off p fun p => ldW σ p K
def lfI (off : Nat) (σ : Mem) (v : AV) (K : Int → Prop) : Prop := lfW off σ v fun a => castI .i64 a K
def lfU (off : Nat) (σ : Mem) (v : AV) (K : Int → Prop) : Prop := lfW off σ v fun a => castI .u8 a K
def lfB (off : Nat) (σ : Mem) (v : AV) (K : Bool → Prop) : Prop := lfW off σ v fun a => castB a K
def lfS (off : Nat) (σ : Mem) (v : AV) (K : ByteArray → Prop) : Prop := lfW off σ v fun a => castS a K
def tpI (v : AV) (i : Nat) (K : Int → Prop) : Prop := tupW v i fun a => castI .i64 a K
def tpU (v : AV) (i : Nat) (K : Int → Prop) : Prop := tupW v i fun a => castI .u8 a K
def tpB (v : AV) (i : Nat) (K : Bool → Prop) : Prop := tupW v i fun a => castB a K
def tpS (v : AV) (i : Nat) (K : ByteArray → Prop) : Prop := tupW v i fun a => castS a K
theorem wrap_i64 {n : Int} (h1 : -9223372036854775808 ≤ n) (h2 : n ≤ 9223372036854775807) : IntKind.i64.wrap n = n := IntWalk.i64_in _ (by omega)
theorem iW_eq {n : Int} {K : Int → Prop} (h : -9223372036854775808 ≤ n ∧ n ≤ 9223372036854775807) : iW n K = K n := by unfold iW wrW; rw [wrap_i64 h.1 h.2]

class One (l : List AV) : Prop where
  one : l.all AV.one = true
class To (p : Prop) (q : outParam Prop) : Prop where
  go : q → p
section
variable {σ : Mem} {b o n k off i : Nat} {c : Cap} {l : List AV}
instance {α : Type} {a : α} {K : α → Prop} : To (letW a K) (K a) := ⟨id⟩
instance {x y : Prop} : To (ifB true x y) x := ⟨id⟩
instance {x y : Prop} : To (ifB false x y) y := ⟨id⟩
instance {b : Bool} {x y : Prop} : To (ifB (!b) x y) (ifB b y x) := ⟨by cases b <;> exact id⟩
instance {n : Int} {K : Int → Prop} : To (iW n K) ((-9223372036854775808 ≤ n ∧ n ≤ 9223372036854775807) ∧ K n) := ⟨fun h => by rw [iW_eq h.1]; exact h.2⟩
instance {n : Int} {K : Int → Prop} : To (wrW .i64 n K) (iW n K) := ⟨id⟩
instance {n : Int} {K : Int → Prop} : To (wrW .u8 n K) (K (n % 256)) := ⟨id⟩
instance {n : Int} {K : Int → Prop} : To (wrW .u16 n K) (K (n % 65536)) := ⟨id⟩
instance {n : Int} {K : Int → Prop} : To (wrW .u32 n K) (K (n % 4294967296)) := ⟨id⟩
instance {n : Int} {K : Int → Prop} : To (wrW .u64 n K) (K (n % 18446744073709551616)) := ⟨id⟩
instance {x y : Int} {K : Int → Prop} : To (quoW .i64 x y K) ((0 ≤ x ∧ x ≤ 9223372036854775807 ∧ 0 < y) ∧ K (x / y)) := ⟨fun ⟨⟨h0, h1, h2⟩, h⟩ => by
  have hd : 0 ≤ x / y := Int.ediv_nonneg h0 (by omega)
  have hl : x / y ≤ x := Int.ediv_le_self _ h0
  refine ⟨by omega, ?_⟩
  rw [Int.tdiv_eq_ediv_of_nonneg h0, wrap_i64 (by omega) (by omega)]; exact h⟩
instance {x y : Int} {K : Int → Prop} : To (remW x y K) ((0 ≤ x ∧ 0 < y) ∧ K (x % y)) := ⟨fun ⟨⟨h0, h1⟩, h⟩ => by
  refine ⟨by omega, ?_⟩
  rw [Int.tmod_eq_emod_of_nonneg h0]; exact h⟩
instance {x y : Int} {K : Int → Prop} : To (shlW .i64 x y K) ((0 ≤ y ∧ y ≤ 64) ∧ iW (x * 2 ^ y.toNat) K) := ⟨fun ⟨⟨h0, h1⟩, h⟩ => by
  refine ⟨h0, ?_⟩
  rw [shAmt, if_pos (by simp [IntKind.bits]; omega), pow2_eq]; exact h⟩
instance {x y : Int} {K : Int → Prop} : To (shrW .i64 x y K) ((0 ≤ y ∧ y ≤ 64) ∧ K (x / 2 ^ y.toNat)) := ⟨fun ⟨⟨h0, h1⟩, h⟩ => by
  refine ⟨h0, ?_⟩
  rw [shAmt, if_pos (by simp [IntKind.bits]; omega), pow2_eq]; exact h⟩
instance {x y : Int} {K : Int → Prop} : To (shlW .u8 x y K) ((0 ≤ y ∧ y ≤ 8) ∧ K (x * 2 ^ y.toNat % 256)) := ⟨fun ⟨⟨h0, h1⟩, h⟩ => by
  refine ⟨h0, ?_⟩
  rw [shAmt, if_pos (by simp [IntKind.bits]; omega), pow2_eq]; exact h⟩
instance {x y : Int} {K : Int → Prop} : To (shrW .u8 x y K) ((0 ≤ y ∧ y ≤ 8) ∧ K (x / 2 ^ y.toNat)) := ⟨fun ⟨⟨h0, h1⟩, h⟩ => by
  refine ⟨h0, ?_⟩
  rw [shAmt, if_pos (by simp [IntKind.bits]; omega), pow2_eq]; exact h⟩
instance {k : IntKind} {n : Int} {K : Int → Prop} : To (castI k (.int k n) K) (K n) := ⟨by cases k <;> exact id⟩
instance {b : Bool} {K : Bool → Prop} : To (castB (.bool b) K) (K b) := ⟨id⟩
instance {s : ByteArray} {K : ByteArray → Prop} : To (castS (.str s) K) (K s) := ⟨id⟩
instance {K : Int → Prop} : To (slenW .nils K) (K 0) := ⟨id⟩
instance {K : Int → Prop} : To (capW .nils K) (K 0) := ⟨id⟩
instance {k : Nat} {K : Int → Prop} : To (capW (.slice b o n (.ex k)) K) (K (k : Nat)) := ⟨id⟩
instance {K : Int → Prop} : To (slenW (.slice b o n c) K) (K (n : Nat)) := ⟨id⟩
instance {K : AV → Prop} : To (fldW off (.ptr b 0) K) (K (.ptr b off)) := ⟨by simp only [fldW, Nat.zero_add]; exact id⟩
instance (priority := low) {K : AV → Prop} : To (fldW off (.ptr b o) K) (K (.ptr b (o + off))) := ⟨id⟩
instance (priority := 1100) {K : AV → Prop} : To (fldW 0 (.ptr b o) K) (K (.ptr b o)) := ⟨id⟩
instance (priority := 1100) {K : AV → Prop} : To (nfW 0 (.ptr b o) K) (K (.ptr b o)) := ⟨id⟩
instance (priority := 1100) {K : AV → Prop} : To (lfW 0 σ (.ptr b o) K) (ldW σ (.ptr b o) K) := ⟨id⟩
instance {K : AV → Prop} : To (nfW off (.ptr b 0) K) (K (.ptr b off)) := ⟨by simp only [nfW, nchkW, fldW, Nat.zero_add]; exact id⟩
instance (priority := low) {K : AV → Prop} : To (nfW off (.ptr b o) K) (K (.ptr b (o + off))) := ⟨id⟩
instance {v : AV} {K : Int → Prop} : To (ldI σ v K) (ldW σ v fun a => castI .i64 a K) := ⟨id⟩
instance {v : AV} {K : Int → Prop} : To (ldU σ v K) (ldW σ v fun a => castI .u8 a K) := ⟨id⟩
instance {v : AV} {K : Bool → Prop} : To (ldB σ v K) (ldW σ v fun a => castB a K) := ⟨id⟩
instance {v : AV} {K : ByteArray → Prop} : To (ldS σ v K) (ldW σ v fun a => castS a K) := ⟨id⟩
instance {K : AV → Prop} : To (lfW off σ (.ptr b 0) K) (ldW σ (.ptr b off) K) := ⟨by simp only [lfW, nchkW, fldW, Nat.zero_add]; exact id⟩
instance (priority := low) {K : AV → Prop} : To (lfW off σ (.ptr b o) K) (ldW σ (.ptr b (o + off)) K) := ⟨id⟩
instance {v : AV} {K : Int → Prop} : To (lfI off σ v K) (lfW off σ v fun a => castI .i64 a K) := ⟨id⟩
instance {v : AV} {K : Int → Prop} : To (lfU off σ v K) (lfW off σ v fun a => castI .u8 a K) := ⟨id⟩
instance {v : AV} {K : Bool → Prop} : To (lfB off σ v K) (lfW off σ v fun a => castB a K) := ⟨id⟩
instance {v : AV} {K : ByteArray → Prop} : To (lfS off σ v K) (lfW off σ v fun a => castS a K) := ⟨id⟩
instance {v : AV} {K : Int → Prop} : To (tpI v i K) (tupW v i fun a => castI .i64 a K) := ⟨id⟩
instance {v : AV} {K : Int → Prop} : To (tpU v i K) (tupW v i fun a => castI .u8 a K) := ⟨id⟩
instance {v : AV} {K : Bool → Prop} : To (tpB v i K) (tupW v i fun a => castB a K) := ⟨id⟩
instance {v : AV} {K : ByteArray → Prop} : To (tpS v i K) (tupW v i fun a => castS a K) := ⟨id⟩
instance {K : AV → Prop} : To (nchkW (.ptr b o) K) (K (.ptr b o)) := ⟨id⟩
instance {f : Nat} {K : AV → Prop} : To (nchkW (.func f l) K) (K (.func f l)) := ⟨id⟩
instance {K : AV → Prop} : To (tupW (.tup l) i K) (optW l[i]? K) := ⟨id⟩
instance {k : Option Nat} {K : AV → Prop} : To (aggW off k (.agg l) K) (optW (partA l off k) K) := ⟨id⟩
instance {α : Type} {a : α} {K : α → Prop} : To (optW (some a) K) (K a) := ⟨id⟩
instance (priority := 1000) {j : Int} {K : AV → Prop} : To (idxW k (.slice b o n c) j K) ((0 ≤ j ∧ j < n) ∧ K (.ptr b (o + j.toNat * k))) := ⟨fun h => ⟨by omega, by simpa using h.2⟩⟩
instance (priority := 1500) {j : Nat} {K : AV → Prop} : To (idxW k (.slice b o n c) ((j : Nat) : Int) K) ((j < n) ∧ K (.ptr b (o + j * k))) := ⟨fun h => ⟨by omega, by simpa using h.2⟩⟩
instance (priority := 1100) {j : Int} {K : AV → Prop} : To (idxW 1 (.slice b o n c) j K) ((0 ≤ j ∧ j < n) ∧ K (.ptr b (o + j.toNat))) := ⟨fun h => ⟨by omega, by simpa using h.2⟩⟩
instance (priority := 1600) {j : Nat} {K : AV → Prop} : To (idxW 1 (.slice b o n c) ((j : Nat) : Int) K) ((j < n) ∧ K (.ptr b (o + j))) := ⟨fun h => ⟨by omega, by simpa using h.2⟩⟩
instance (priority := 1100) {j : Int} {K : AV → Prop} : To (idxW k (.slice b 0 n c) j K) ((0 ≤ j ∧ j < n) ∧ K (.ptr b (j.toNat * k))) := ⟨fun h => ⟨by omega, by simpa using h.2⟩⟩
instance (priority := 1600) {j : Nat} {K : AV → Prop} : To (idxW k (.slice b 0 n c) ((j : Nat) : Int) K) ((j < n) ∧ K (.ptr b (j * k))) := ⟨fun h => ⟨by omega, by simpa using h.2⟩⟩
instance (priority := 1200) {j : Int} {K : AV → Prop} : To (idxW 1 (.slice b 0 n c) j K) ((0 ≤ j ∧ j < n) ∧ K (.ptr b (j.toNat))) := ⟨fun h => ⟨by omega, by simpa using h.2⟩⟩
instance (priority := 1700) {j : Nat} {K : AV → Prop} : To (idxW 1 (.slice b 0 n c) ((j : Nat) : Int) K) ((j < n) ∧ K (.ptr b (j))) := ⟨fun h => ⟨by omega, by simpa using h.2⟩⟩
instance {j : Int} {K : AV → Prop} : To (idxAW n k (.ptr b o) j K) ((0 ≤ j ∧ j < n) ∧ K (.ptr b (o + j.toNat * k))) := ⟨id⟩
instance {s : ByteArray} {j : Int} {K : Int → Prop} : To (sidxW s j K) ((0 ≤ j ∧ j < s.size) ∧ K (byteAt s j.toNat : Nat)) := ⟨id⟩
instance {q : Option Nat} {j : Int} {K : AV → Prop} : To (aidxW n k q (.agg l) j K) ((0 ≤ j ∧ j < n) ∧ optW (partA l (j.toNat * k) q) K) := ⟨id⟩
instance {s s' : ByteArray} {K : ByteArray → Prop} : To (catW s s' K) (s.size + s'.size ≤ 9223372036854775807 ∧ K (s ++ s')) := ⟨id⟩
instance {s : ByteArray} {lo hi : Int} {K : ByteArray → Prop} : To (subW s lo hi K) ((0 ≤ lo ∧ lo ≤ hi ∧ hi ≤ s.size) ∧ K (s.extract lo.toNat hi.toNat)) := ⟨id⟩
instance {s : ByteArray} {X : Prop} : To (sbytesW s X) (s.size ≤ 9223372036854775806 ∧ X) := ⟨id⟩
instance {x y : Int} {X : Prop} : To (makeW k x y X) ((0 ≤ x ∧ x ≤ y ∧ (k : Int) * y ≤ 140737488355328 ∧ y ≤ 9223372036854775807) ∧ X) := ⟨id⟩
instance {id : Nat} {blk : Blk} {K : Mem → Prop} : To (newW σ id blk K) (K (σ.put id (some blk))) := ⟨fun h => h⟩
instance {K : ByteArray → Prop} : To (bstrW σ .nils K) (K ByteArray.empty) := ⟨id⟩
instance {K : Int → Prop} : To (mlenW σ .nilm K) (K 0) := ⟨id⟩
instance {K : Bool → Prop} : To (eqW .ptr .nilp .nilp K) (K true) := ⟨id⟩
instance {K : Bool → Prop} : To (eqW .ptr (.ptr b o) .nilp K) (K false) := ⟨id⟩
instance {K : Bool → Prop} : To (eqW .sl .nils .nils K) (K true) := ⟨id⟩
instance {K : Bool → Prop} : To (eqW .sl (.slice b o n c) .nils K) (K false) := ⟨id⟩
instance {K : Bool → Prop} : To (eqW .map .nilm .nilm K) (K true) := ⟨id⟩
instance {K : Bool → Prop} : To (eqW .map (.map b) .nilm K) (K false) := ⟨id⟩
instance {x y : Bool} {K : Bool → Prop} : To (eqW .bool (.bool x) (.bool y) K) (K (x == y)) := ⟨id⟩
instance {l' : List AV} {os : List (Nat × Nat)} {K : Bool → Prop} : To (eqW (.flat os) (.agg l) (.agg l') K) (flatW l l' os K) := ⟨id⟩
instance {l' : List AV} {K : Bool → Prop} : To (flatW l l' [] K) (K true) := ⟨id⟩
instance {l' : List AV} {p : Nat × Nat} {os : List (Nat × Nat)} {K : Bool → Prop} : To (flatW l l' (p :: os) K) (optW l[p.1]? fun x => optW l'[p.1]? fun y => scalarW p.2 x y fun r => flatW l l' os fun q => K (r && q)) := ⟨id⟩
instance {x y : Bool} {K : Bool → Prop} : To (scalarW 0 (.bool x) (.bool y) K) (K (x == y)) := ⟨id⟩
instance {x y : Int} {k : IntKind} {K : Bool → Prop} : To (scalarW 1 (.int k x) (.int k y) K) (K (decide (x = y))) := ⟨fun h => ⟨rfl, h⟩⟩
instance {x y : ByteArray} {K : Bool → Prop} : To (scalarW 2 (.str x) (.str y) K) (K (decide (x = y))) := ⟨id⟩
instance {k : IntKind} {n : Int} {X : Prop} : To (cellOkW (.int k n) 1 X) X := ⟨id⟩
instance {x : Bool} {X : Prop} : To (cellOkW (.bool x) 1 X) X := ⟨id⟩
instance {s : ByteArray} {X : Prop} : To (cellOkW (.str s) 1 X) X := ⟨id⟩
instance {X : Prop} : To (cellOkW .nilp 1 X) X := ⟨id⟩
instance {X : Prop} : To (cellOkW (.ptr b o) 1 X) X := ⟨id⟩
instance {X : Prop} : To (cellOkW .nils 1 X) X := ⟨id⟩
instance {X : Prop} : To (cellOkW (.slice b o n c) 1 X) X := ⟨id⟩
instance {X : Prop} : To (cellOkW .nilm 1 X) X := ⟨id⟩
instance {X : Prop} : To (cellOkW (.map b) 1 X) X := ⟨id⟩
instance {X : Prop} : To (cellOkW .nilf 1 X) X := ⟨id⟩
instance {f : Nat} {X : Prop} : To (cellOkW (.func f l) 1 X) X := ⟨id⟩
instance {X : Prop} : To (cellOkW (.agg l) n X) ((l.length = n ∧ l.all AV.one = true) ∧ X) := ⟨id⟩
instance : One [] := ⟨rfl⟩
instance {k : IntKind} {n : Int} {l : List AV} [h : One l] : One (.int k n :: l) := ⟨h.one⟩
instance {x : Bool} {l : List AV} [h : One l] : One (.bool x :: l) := ⟨h.one⟩
instance {s : ByteArray} {l : List AV} [h : One l] : One (.str s :: l) := ⟨h.one⟩
instance {l : List AV} [h : One l] : One (.nilp :: l) := ⟨h.one⟩
instance {l : List AV} [h : One l] : One (.ptr b o :: l) := ⟨h.one⟩
instance {l : List AV} [h : One l] : One (.nils :: l) := ⟨h.one⟩
instance {l : List AV} [h : One l] : One (.slice b o n c :: l) := ⟨h.one⟩
instance {l : List AV} [h : One l] : One (.nilm :: l) := ⟨h.one⟩
instance {l : List AV} [h : One l] : One (.map b :: l) := ⟨h.one⟩
instance {l : List AV} [h : One l] : One (.nilf :: l) := ⟨h.one⟩
instance {f : Nat} {l' l : List AV} [h : One l] : One (.func f l' :: l) := ⟨h.one⟩
instance [h : One l] {X : Prop} : To (boxW (.agg l) X) X := ⟨fun x => ⟨h.one, x⟩⟩
instance (priority := low) {X : Prop} : To (boxW (.agg l) X) (l.all AV.one = true ∧ X) := ⟨id⟩
instance {lo hi : Int} {K : AV → Prop} : To (slcW k (.slice b o n (.ex i)) (some lo) (some hi) K) ((0 ≤ lo ∧ lo ≤ hi ∧ hi ≤ i) ∧ K (.slice b (o + lo.toNat * k) (hi.toNat - lo.toNat) (.ex (i - lo.toNat)))) := ⟨fun h => ⟨⟨rfl, h.1⟩, h.2⟩⟩
instance {lo : Int} {K : AV → Prop} : To (slcW k (.slice b o n (.ex i)) (some lo) none K) ((0 ≤ lo ∧ lo ≤ n ∧ n ≤ i) ∧ K (.slice b (o + lo.toNat * k) (n - lo.toNat) (.ex (i - lo.toNat)))) := ⟨fun h => ⟨⟨rfl, h.1.1, h.1.2.1, by have := h.1.2.2; exact Int.ofNat_le.2 this⟩, h.2⟩⟩
instance {hi : Int} {K : AV → Prop} : To (slcW k (.slice b o n (.ex i)) none (some hi) K) ((0 ≤ hi ∧ hi ≤ i) ∧ K (.slice b o hi.toNat (.ex i))) := ⟨fun h => ⟨⟨rfl, Int.le_refl _, h.1⟩, by simpa [orD, Cap.cut] using h.2⟩⟩
instance {lo hi : Int} {K : AV → Prop} : To (slcW k (.slice b o n (.op i)) (some lo) (some hi) K) ((0 ≤ lo ∧ lo ≤ hi ∧ hi ≤ n ∧ (i = k ∨ i = 0)) ∧ K (.slice b (o + lo.toNat * k) (hi.toNat - lo.toNat) (.op i))) := ⟨fun h => ⟨⟨by simp [Cap.fits, h.1.2.2.2], h.1.1, h.1.2.1, h.1.2.2.1⟩, h.2⟩⟩
instance {lo : Int} {K : AV → Prop} : To (slcW k (.slice b o n (.op i)) (some lo) none K) ((0 ≤ lo ∧ lo ≤ n ∧ (i = k ∨ i = 0)) ∧ K (.slice b (o + lo.toNat * k) (n - lo.toNat) (.op i))) := ⟨fun h => ⟨⟨by simp [Cap.fits, h.1.2.2], h.1.1, h.1.2.1, Int.le_refl _⟩, h.2⟩⟩
instance {hi : Int} {K : AV → Prop} : To (slcW k (.slice b o n (.op i)) none (some hi) K) ((0 ≤ hi ∧ hi ≤ n ∧ (i = k ∨ i = 0)) ∧ K (.slice b o hi.toNat (.op i))) := ⟨fun h => ⟨⟨by simp [Cap.fits, h.1.2.2], Int.le_refl _, h.1.1, h.1.2.1⟩, by simpa [orD, Cap.cut] using h.2⟩⟩
instance {lo hi : Option Int} {K : AV → Prop} : To (slcW k .nils lo hi K) ((0 ≤ orD 0 lo ∧ orD 0 lo ≤ orD 0 hi ∧ orD 0 hi ≤ 0) ∧ K .nils) := ⟨id⟩
instance {lo hi : Int} {K : AV → Prop} : To (slaW n k (.ptr b o) (some lo) (some hi) K) ((0 ≤ lo ∧ lo ≤ hi ∧ hi ≤ n) ∧ K (.slice b (o + lo.toNat * k) (hi.toNat - lo.toNat) (.ex (n - lo.toNat)))) := ⟨id⟩
instance {K : AV → Prop} : To (slaW n k (.ptr b o) none none K) (K (.slice b o n (.ex n))) := ⟨fun h => ⟨⟨Int.le_refl _, Int.natCast_nonneg n, Int.le_refl _⟩, by simpa [orD] using h⟩⟩
instance {σ' : Mem} {X : Prop} : To (fltS.sameW σ σ' (.ptr b o) X) (σ'.get b = σ.get b ∧ X) := ⟨id⟩
instance {σ' : Mem} {X : Prop} : To (fltS.sameW σ σ' (.slice b o n c) X) (σ'.get b = σ.get b ∧ X) := ⟨id⟩
instance {σ' : Mem} {X : Prop} : To (fltS.sameW σ σ' (.map b) X) (σ'.get b = σ.get b ∧ X) := ⟨id⟩
instance {σ' : Mem} {X : Prop} : To (fltS.sameW σ σ' .nils X) X := ⟨id⟩
instance {σ' : Mem} {X : Prop} : To (fltS.sameW σ σ' .nilm X) X := ⟨id⟩
instance {K : Nat → List AV → Prop} : To (srcW σ k .nils K) (K 0 []) := ⟨id⟩
instance {s : ByteArray} {K : Nat → List AV → Prop} : To (srcW σ 1 (.str s) K) (K s.size (bytesOf s)) := ⟨fun h => ⟨rfl, h⟩⟩
instance (priority := high) {j : Nat} {K : AV → Prop} : To (idxAW n k (.ptr b o) (j : Int) K) (j < n ∧ K (.ptr b (o + j * k))) := ⟨fun h => ⟨by omega, by simpa using h.2⟩⟩
instance (priority := high) {s : ByteArray} {j : Nat} {K : Int → Prop} : To (sidxW s (j : Int) K) (j < s.size ∧ K (byteAt s j : Nat)) := ⟨fun h => ⟨by omega, by simpa using h.2⟩⟩
instance (priority := 1600) {K : AV → Prop} : To (idxW k (.slice b o n c) 0 K) (0 < n ∧ K (.ptr b (o))) := ⟨fun h => ⟨by omega, by simpa using h.2⟩⟩
instance (priority := 1700) {K : AV → Prop} : To (idxW 1 (.slice b o n c) 0 K) (0 < n ∧ K (.ptr b (o))) := ⟨fun h => ⟨by omega, by simpa using h.2⟩⟩
instance (priority := 1700) {K : AV → Prop} : To (idxW k (.slice b 0 n c) 0 K) (0 < n ∧ K (.ptr b (0))) := ⟨fun h => ⟨by omega, by simpa using h.2⟩⟩
instance (priority := 1800) {K : AV → Prop} : To (idxW 1 (.slice b 0 n c) 0 K) (0 < n ∧ K (.ptr b (0))) := ⟨fun h => ⟨by omega, by simpa using h.2⟩⟩
instance (priority := 1600) {s : ByteArray} {K : Int → Prop} : To (sidxW s 0 K) (0 < s.size ∧ K (byteAt s 0 : Nat)) := ⟨fun h => ⟨by omega, h.2⟩⟩
instance (priority := 1600) {K : AV → Prop} : To (idxAW n k (.ptr b o) 0 K) (0 < n ∧ K (.ptr b (o + 0 * k))) := ⟨fun h => ⟨by omega, h.2⟩⟩
instance (priority := 1600) {K : AV → Prop} : To (idxW k (.slice b o n c) 1 K) (1 < n ∧ K (.ptr b (o + 1 * k))) := ⟨fun h => ⟨by omega, by simpa using h.2⟩⟩
instance (priority := 1700) {K : AV → Prop} : To (idxW 1 (.slice b o n c) 1 K) (1 < n ∧ K (.ptr b (o + 1))) := ⟨fun h => ⟨by omega, by simpa using h.2⟩⟩
instance (priority := 1700) {K : AV → Prop} : To (idxW k (.slice b 0 n c) 1 K) (1 < n ∧ K (.ptr b (1 * k))) := ⟨fun h => ⟨by omega, by simpa using h.2⟩⟩
instance (priority := 1800) {K : AV → Prop} : To (idxW 1 (.slice b 0 n c) 1 K) (1 < n ∧ K (.ptr b (1))) := ⟨fun h => ⟨by omega, by simpa using h.2⟩⟩
instance (priority := 1600) {s : ByteArray} {K : Int → Prop} : To (sidxW s 1 K) (1 < s.size ∧ K (byteAt s 1 : Nat)) := ⟨fun h => ⟨by omega, h.2⟩⟩
instance (priority := 1600) {K : AV → Prop} : To (idxAW n k (.ptr b o) 1 K) (1 < n ∧ K (.ptr b (o + 1 * k))) := ⟨fun h => ⟨by omega, h.2⟩⟩
instance (priority := 1600) {K : AV → Prop} : To (idxW k (.slice b o n c) 2 K) (2 < n ∧ K (.ptr b (o + 2 * k))) := ⟨fun h => ⟨by omega, by simpa using h.2⟩⟩
instance (priority := 1700) {K : AV → Prop} : To (idxW 1 (.slice b o n c) 2 K) (2 < n ∧ K (.ptr b (o + 2))) := ⟨fun h => ⟨by omega, by simpa using h.2⟩⟩
instance (priority := 1700) {K : AV → Prop} : To (idxW k (.slice b 0 n c) 2 K) (2 < n ∧ K (.ptr b (2 * k))) := ⟨fun h => ⟨by omega, by simpa using h.2⟩⟩
instance (priority := 1800) {K : AV → Prop} : To (idxW 1 (.slice b 0 n c) 2 K) (2 < n ∧ K (.ptr b (2))) := ⟨fun h => ⟨by omega, by simpa using h.2⟩⟩
instance (priority := 1600) {s : ByteArray} {K : Int → Prop} : To (sidxW s 2 K) (2 < s.size ∧ K (byteAt s 2 : Nat)) := ⟨fun h => ⟨by omega, h.2⟩⟩
instance (priority := 1600) {K : AV → Prop} : To (idxAW n k (.ptr b o) 2 K) (2 < n ∧ K (.ptr b (o + 2 * k))) := ⟨fun h => ⟨by omega, h.2⟩⟩
instance (priority := 1600) {K : AV → Prop} : To (idxW k (.slice b o n c) 3 K) (3 < n ∧ K (.ptr b (o + 3 * k))) := ⟨fun h => ⟨by omega, by simpa using h.2⟩⟩
instance (priority := 1700) {K : AV → Prop} : To (idxW 1 (.slice b o n c) 3 K) (3 < n ∧ K (.ptr b (o + 3))) := ⟨fun h => ⟨by omega, by simpa using h.2⟩⟩
instance (priority := 1700) {K : AV → Prop} : To (idxW k (.slice b 0 n c) 3 K) (3 < n ∧ K (.ptr b (3 * k))) := ⟨fun h => ⟨by omega, by simpa using h.2⟩⟩
instance (priority := 1800) {K : AV → Prop} : To (idxW 1 (.slice b 0 n c) 3 K) (3 < n ∧ K (.ptr b (3))) := ⟨fun h => ⟨by omega, by simpa using h.2⟩⟩
instance (priority := 1600) {s : ByteArray} {K : Int → Prop} : To (sidxW s 3 K) (3 < s.size ∧ K (byteAt s 3 : Nat)) := ⟨fun h => ⟨by omega, h.2⟩⟩
instance (priority := 1600) {K : AV → Prop} : To (idxAW n k (.ptr b o) 3 K) (3 < n ∧ K (.ptr b (o + 3 * k))) := ⟨fun h => ⟨by omega, h.2⟩⟩
/-! ### Forks -/
theorem ifT {p x y : Prop} [Decidable p] (h : p) (hx : x) : ifB (decide p) x y := by rw [decide_eq_true h]; exact hx
theorem ifF {p x y : Prop} [Decidable p] (h : ¬ p) (hy : y) : ifB (decide p) x y := by rw [decide_eq_false h]; exact hy
theorem ifD {p x y : Prop} [Decidable p] (h1 : p → x) (h2 : ¬ p → y) : ifB (decide p) x y := by
  by_cases h : p
  · exact ifT h (h1 h)
  · exact ifF h (h2 h)
theorem ifI {b : Bool} {x y : Prop} (h1 : b = true → x) (h2 : b = false → y) : ifB b x y := by
  cases b
  · exact h2 rfl
  · exact h1 rfl
theorem opt {α : Type} {a : Option α} {v : α} {K : α → Prop} (h : a = some v) (hk : K v) : optW a K := by rw [h]; exact hk
/-! ### Memory -/
theorem ldq {q : Blk} {v : AV} {K : AV → Prop} (h1 : σ.get b = some q) (h2 : (q.cellsR.bind fun c => c[o]?) = some v) (h : K v) : ldW σ (.ptr b o) K := by
  show optW ((σ.get b).bind fun k => k.cellsR.bind fun c => c[o]?) K
  rw [h1]; simp only [Option.bind_some, h2]; exact h
theorem ldrw {v : AV} {K : AV → Prop} (h1 : σ.get b = some (.rw l)) (h2 : l[o]? = some v) (h : K v) : ldW σ (.ptr b o) K := ldq h1 h2 h
theorem ldro {v : AV} {K : AV → Prop} (h1 : σ.get b = some (.ro l)) (h2 : l[o]? = some v) (h : K v) : ldW σ (.ptr b o) K := ldq h1 h2 h
theorem ldnq {q : Blk} {K : AV → Prop} (h1 : σ.get b = some q) (h2 : q.cellsR = some l) (h3 : o + n ≤ l.length) (h : K (.agg ((l.drop o).take n))) : ldnW n σ (.ptr b o) K := by
  show optW ((σ.get b).bind fun k => k.cellsR.bind fun c => if o + n ≤ c.length then some ((c.drop o).take n) else none) fun c => K (.agg c)
  rw [h1]; simp only [Option.bind_some, h2]; rw [if_pos h3]; exact h
theorem st1 {v : AV} {K : Mem → Prop} (h : σ.get b = some (.rw l)) (hn : o < l.length) (h1 : v.one = true) (hk : K (σ.put b (some (.rw (l.set o v))))) : stW 1 σ (.ptr b o) v K := by
  simp only [stW, h, optW]
  cases v <;> first | exact Bool.noConfusion h1 | exact ⟨hn, hk⟩
theorem stn {vs : List AV} {K : Mem → Prop} (h : σ.get b = some (.rw l)) (hn : o + n ≤ l.length) (h2 : vs.length = n) (h1 : vs.all AV.one = true) (hk : K (σ.put b (some (.rw (setAt l o vs))))) : stW n σ (.ptr b o) (.agg vs) K := by
  simp only [stW, h, optW]
  exact ⟨⟨h2, h1⟩, hn, hk⟩
theorem gB {x : Option Blk} {n : Nat} (h : σ.get b = x) : (σ.bump n).get b = x := h
theorem gN {b' : Nat} {x k : Option Blk} (hne : b' ≠ b) (h : σ.get b' = x) : (σ.put b k).get b' = x := (Mem.get_put_ne σ hne k).trans h
theorem gS' {k : Option Blk} : (σ.put b k).get b = k := Mem.get_put_self σ b k
theorem callW_of {P : Program} {f : Nat} {Q K : AV → Mem → Prop} (h : ACalls P f l σ Q) (hk : ∀ v σ', Q v σ' → K v σ') : callW P f l σ K := h.mono hk
theorem callvW_of {P : Program} {f : Nat} {l' : List AV} {Q K : AV → Mem → Prop} (h : ACalls P f (l ++ l') σ Q) (hk : ∀ v σ', Q v σ' → K v σ') : callvW P (.func f l') l σ K := h.mono hk
theorem joinI {gs : List Tag} {body : Fn gs → Prop} {rest : Fn gs} (h : body rest) : joinF gs body rest := ⟨rest, h, fun _ _ h => h⟩
end
attribute [go_sem] Mem.get_bump Mem.get_put_self Mem.get_put_ne Mem.next_put Mem.next_bump

def Again (p : Prop) : Prop := p
theorem again {p : Prop} (h : p) : Again p := h
def Ends (p : Prop) : Prop := p
theorem ends {p : Prop} (h : p) : Ends p := h
/-! ### Loops and joins, by the number of their things -/
theorem loop0 {body : Fn [] → Fn []}  {σ : Mem} {ι : Type} (I : ι → Mem → Prop) (μ : ι → Nat) (i : ι) (h0 : I i  σ)
    (h : ∀ i  σ, I i  σ → body (fun  σ => Again (∃ j, I j  σ ∧ μ j < μ i))  σ) : loopF [] body  σ :=
  show loopA [] body () σ from ⟨ι, fun i a σ => I i  σ, μ, i, h0, fun i a σ hi => h i  σ hi⟩
theorem join0 {body : Fn [] → Prop} {rest : Fn []} (R : Mem → Prop) (h0 : body R) (h : ∀  σ, R  σ → rest  σ) : joinF [] body rest :=
  ⟨R, h0, fun a σ hi => h  σ hi⟩
theorem loop1 {g1 : Tag} {body : Fn [g1] → Fn [g1]} {x1 : g1.Ty} {σ : Mem} {ι : Type} (I : ι → g1.Ty → Mem → Prop) (μ : ι → Nat) (i : ι) (h0 : I i x1 σ)
    (h : ∀ i (x1 : g1.Ty) σ, I i x1 σ → body (fun x1 σ => Again (∃ j, I j x1 σ ∧ μ j < μ i)) x1 σ) : loopF [g1] body x1 σ :=
  show loopA [g1] body (x1, ()) σ from ⟨ι, fun i a σ => I i a.1 σ, μ, i, h0, fun i a σ hi => h i a.1 σ hi⟩
theorem join1 {g1 : Tag} {body : Fn [g1] → Prop} {rest : Fn [g1]} (R : g1.Ty → Mem → Prop) (h0 : body R) (h : ∀ (x1 : g1.Ty) σ, R x1 σ → rest x1 σ) : joinF [g1] body rest :=
  ⟨R, h0, fun a σ hi => h a.1 σ hi⟩
theorem loop2 {g1 g2 : Tag} {body : Fn [g1, g2] → Fn [g1, g2]} {x1 : g1.Ty} {x2 : g2.Ty} {σ : Mem} {ι : Type} (I : ι → g1.Ty → g2.Ty → Mem → Prop) (μ : ι → Nat) (i : ι) (h0 : I i x1 x2 σ)
    (h : ∀ i (x1 : g1.Ty) (x2 : g2.Ty) σ, I i x1 x2 σ → body (fun x1 x2 σ => Again (∃ j, I j x1 x2 σ ∧ μ j < μ i)) x1 x2 σ) : loopF [g1, g2] body x1 x2 σ :=
  show loopA [g1, g2] body (x1, x2, ()) σ from ⟨ι, fun i a σ => I i a.1 a.2.1 σ, μ, i, h0, fun i a σ hi => h i a.1 a.2.1 σ hi⟩
theorem loop4 {g1 g2 g3 g4 : Tag} {body : Fn [g1, g2, g3, g4] → Fn [g1, g2, g3, g4]} {x1 : g1.Ty} {x2 : g2.Ty} {x3 : g3.Ty} {x4 : g4.Ty} {σ : Mem} {ι : Type} (I : ι → g1.Ty → g2.Ty → g3.Ty → g4.Ty → Mem → Prop) (μ : ι → Nat) (i : ι) (h0 : I i x1 x2 x3 x4 σ)
    (h : ∀ i (x1 : g1.Ty) (x2 : g2.Ty) (x3 : g3.Ty) (x4 : g4.Ty) σ, I i x1 x2 x3 x4 σ → body (fun x1 x2 x3 x4 σ => Again (∃ j, I j x1 x2 x3 x4 σ ∧ μ j < μ i)) x1 x2 x3 x4 σ) : loopF [g1, g2, g3, g4] body x1 x2 x3 x4 σ :=
  show loopA [g1, g2, g3, g4] body (x1, x2, x3, x4, ()) σ from ⟨ι, fun i a σ => I i a.1 a.2.1 a.2.2.1 a.2.2.2.1 σ, μ, i, h0, fun i a σ hi => h i a.1 a.2.1 a.2.2.1 a.2.2.2.1 σ hi⟩
theorem loop5 {g1 g2 g3 g4 g5 : Tag} {body : Fn [g1, g2, g3, g4, g5] → Fn [g1, g2, g3, g4, g5]} {x1 : g1.Ty} {x2 : g2.Ty} {x3 : g3.Ty} {x4 : g4.Ty} {x5 : g5.Ty} {σ : Mem} {ι : Type} (I : ι → g1.Ty → g2.Ty → g3.Ty → g4.Ty → g5.Ty → Mem → Prop) (μ : ι → Nat) (i : ι) (h0 : I i x1 x2 x3 x4 x5 σ)
    (h : ∀ i (x1 : g1.Ty) (x2 : g2.Ty) (x3 : g3.Ty) (x4 : g4.Ty) (x5 : g5.Ty) σ, I i x1 x2 x3 x4 x5 σ → body (fun x1 x2 x3 x4 x5 σ => Again (∃ j, I j x1 x2 x3 x4 x5 σ ∧ μ j < μ i)) x1 x2 x3 x4 x5 σ) : loopF [g1, g2, g3, g4, g5] body x1 x2 x3 x4 x5 σ :=
  show loopA [g1, g2, g3, g4, g5] body (x1, x2, x3, x4, x5, ()) σ from ⟨ι, fun i a σ => I i a.1 a.2.1 a.2.2.1 a.2.2.2.1 a.2.2.2.2.1 σ, μ, i, h0, fun i a σ hi => h i a.1 a.2.1 a.2.2.1 a.2.2.2.1 a.2.2.2.2.1 σ hi⟩
end Go.Vit
end

section
namespace Go.Vit
theorem rem_any {a b : Int} {K : Int → Prop} (h : 0 < b) (hk : ∀ r, -b < r → r < b → (0 ≤ a → r = a % b) → K r) : remW a b K := by
  refine ⟨by omega, hk _ ?_ ?_ fun h0 => Int.tmod_eq_emod_of_nonneg h0⟩
  · have := Int.lt_tmod_of_pos a h; omega
  · exact Int.tmod_lt_of_pos a h
/-! ### Bytes as cells -/
def bl (l : List UInt8) : List AV := l.map fun b => .int .u8 b.toNat
theorem toBytes_bl : ∀ l : List UInt8, toBytes (bl l) = some l
  | [] => rfl
  | b :: l => by
    have ih := toBytes_bl l
    unfold bl at ih ⊢
    rw [List.map_cons, toBytes, ih]
    simp
theorem bl_length (l : List UInt8) : (bl l).length = l.length := by simp [bl]
theorem bl_take (l : List UInt8) (n : Nat) : (bl l).take n = bl (l.take n) := by simp [bl, List.map_take]
theorem bstr_bl {σ : Mem} {b n : Nat} {c : Cap} {l : List UInt8} {K : ByteArray → Prop} (h : σ.get b = some (.rw (bl l))) (hn : n = l.length) (hk : K ⟨l.toArray⟩) : bstrW σ (.slice b 0 n c) K := by
  subst hn
  refine opt (a := (σ.cells b 0 l.length).bind toBytes) (v := l) ?_ hk
  rw [Mem.cells_of h, if_pos (by rw [bl_length]; omega)]
  simp only [Option.bind_some, List.drop_zero]
  rw [bl_take, List.take_length, toBytes_bl]
theorem bytesL_mk (l : List UInt8) : bytesL ⟨l.toArray⟩ = l := by simp [bytesL]
theorem mk_bytesL (s : ByteArray) : (⟨(bytesL s).toArray⟩ : ByteArray) = s := by cases s; simp [bytesL]
theorem bytesL_inj {a b : ByteArray} (h : bytesL a = bytesL b) : a = b := by rw [← mk_bytesL a, h, mk_bytesL]
theorem byteAt_mk (l : List UInt8) (i : Nat) : byteAt ⟨l.toArray⟩ i = (l[i]?.getD 0).toNat := by simp [byteAt, bytesL_mk]
theorem byteAt_lt_of {s : ByteArray} {i : Nat} (h : i < (bytesL s).length) : byteAt s i = ((bytesL s)[i]).toNat := by
  unfold byteAt; rw [List.getElem?_eq_getElem h]; rfl
theorem bytes_ext {a b : ByteArray} (hs : a.size = b.size) (h : ∀ i, i < a.size → byteAt a i = byteAt b i) : a = b := by
  refine bytesL_inj (List.ext_getElem (by rw [bytesL_length, bytesL_length, hs]) fun i h1 h2 => ?_)
  have := h i (by rw [← bytesL_length]; exact h1)
  rw [byteAt_lt_of h1, byteAt_lt_of h2] at this
  exact UInt8.toNat_inj.1 this
end Go.Vit
end

section
namespace Go.Vit
structure Mem.Only (l : List Nat) (σ σ' : Mem) : Prop where
  next : σ.next ≤ σ'.next
  get : ∀ b, b < σ.next → b ∉ l → σ'.get b = σ.get b
theorem Mem.Same.only {σ σ' : Mem} (h : σ.Same σ') (l : List Nat) : Mem.Only l σ σ' := ⟨h.next, fun b hb _ => h.get b hb⟩
theorem Mem.Only.refl (l : List Nat) (σ : Mem) : Mem.Only l σ σ := ⟨Nat.le_refl _, fun _ _ _ => rfl⟩
theorem Mem.Only.trans {l : List Nat} {σ σ' σ'' : Mem} (h : Mem.Only l σ σ') (h' : Mem.Only l σ' σ'') : Mem.Only l σ σ'' :=
  ⟨Nat.le_trans h.next h'.next, fun b hb hn => (h'.get b (Nat.lt_of_lt_of_le hb h.next) hn).trans (h.get b hb hn)⟩
theorem Mem.Only.mono {l l' : List Nat} {σ σ' : Mem} (h : Mem.Only l σ σ') (hl : ∀ b ∈ l, b ∈ l' ∨ σ.next ≤ b) : Mem.Only l' σ σ' :=
  ⟨h.next, fun b hb hn => h.get b hb fun hm => by rcases hl b hm with h | h; exact hn h; omega⟩
theorem Mem.Only.bump {l : List Nat} {σ σ' : Mem} (h : Mem.Only l σ σ') (n : Nat) : Mem.Only l σ (σ'.bump n) := ⟨Nat.le_trans h.next (Nat.le_add_right _ _), fun b hb hn => h.get b hb hn⟩
theorem Mem.Only.put {l : List Nat} {σ σ' : Mem} (h : Mem.Only l σ σ') {b : Nat} (hb : b ∈ l ∨ σ.next ≤ b) (o : Option Blk) : Mem.Only l σ (σ'.put b o) :=
  ⟨h.next, fun c hc hn => (Mem.get_put_ne _ (by rintro rfl; rcases hb with hb | hb; exact hn hb; omega) _).trans (h.get c hc hn)⟩
theorem Mem.Only.same {σ σ' : Mem} (h : Mem.Only [] σ σ') : σ.Same σ' := ⟨h.next, fun b hb => h.get b hb (by simp)⟩
theorem Mem.Only.keep {l : List Nat} {σ σ' : Mem} (h : Mem.Only l σ σ') {b : Nat} {o : Option Blk} (hg : σ.get b = o) (hb : b < σ.next) (hn : b ∉ l) : σ'.get b = o := (h.get b hb hn).trans hg
theorem Mem.Same.keep {σ σ' : Mem} (h : σ.Same σ') {b : Nat} {o : Option Blk} (hg : σ.get b = o) (hb : b < σ.next) : σ'.get b = o := (h.get b hb).trans hg
theorem Mem.Same.ob {σ σ' : Mem} {n : Nat} (h : (σ.bump n).Same σ') : σ.Same σ' := ⟨Nat.le_trans (Nat.le_add_right _ _) h.next, fun b hb => h.get b (Nat.lt_of_lt_of_le hb (Nat.le_add_right _ _))⟩
theorem Mem.Only.ob {l : List Nat} {σ σ' : Mem} {n : Nat} (h : Mem.Only l (σ.bump n) σ') : Mem.Only l σ σ' := ⟨Nat.le_trans (Nat.le_add_right _ _) h.next, fun b hb => h.get b (Nat.lt_of_lt_of_le hb (Nat.le_add_right _ _))⟩
theorem Mem.Only.then {l : List Nat} {σ σ' σ'' : Mem} (h : Mem.Only l σ σ') (h' : σ'.Same σ'') : Mem.Only l σ σ'' := h.trans (h'.only l)
theorem Mem.Live.lt {σ : Mem} (h : σ.Live) {b : Nat} {k : Blk} (hg : σ.get b = some k) : b < σ.next := h b k hg

/-! ### Bits of bytes -/
def bitAt (s : ByteArray) (i : Nat) : Nat := byteAt s (i / 8) / 2 ^ (i % 8) % 2
def val (s : ByteArray) (at' : Nat) : Nat → Nat
  | 0 => 0
  | n + 1 => val s at' n + bitAt s (at' + n) * 2 ^ n
/-! ### Pieces of strings -/
theorem size_extract (s : ByteArray) (i j : Nat) : (s.extract i j).size = min j s.size - i := ByteArray.size_extract
end Go.Vit
end

section
namespace Go.Vit
section
variable {P : Program} {σ : Mem}
def fieldsOf (P : Program) (t : TypeId) : List (Nat × Nat) :=
  match P.underlying t with
  | some (.struct fs) => fs.toList.map fun f => (f.type, f.offset)
  | _ => []
end
end Go.Vit
end

section
namespace Go.Vit
def blkOf : AV → List Nat
  | .slice b _ _ _ => [b]
  | _ => []
def OwnS (k : Nat) (σ : Mem) (v : AV) (cs : List AV) (n : Nat) : Prop :=
  (v = .nils ∧ n = 0 ∧ cs = []) ∨ ∃ b, v = .slice b 0 n (.op k) ∧ σ.get b = some (.rw cs) ∧ cs.length = n * k
theorem OwnS.nil (k : Nat) (σ : Mem) : OwnS k σ .nils [] 0 := .inl ⟨rfl, rfl, rfl⟩
theorem OwnS.len {k n : Nat} {σ : Mem} {v : AV} {cs : List AV} (h : OwnS k σ v cs n) {K : Int → Prop} (hk : K (n : Nat)) : slenW v K := by
  rcases h with ⟨rfl, rfl, rfl⟩ | ⟨b, rfl, _⟩ <;> exact hk
theorem OwnS.length {k n : Nat} {σ : Mem} {v : AV} {cs : List AV} (h : OwnS k σ v cs n) : cs.length = n * k := by
  rcases h with ⟨rfl, rfl, rfl⟩ | ⟨b, rfl, _, h⟩
  · simp
  · exact h
theorem OwnS.keep {k n : Nat} {σ σ' : Mem} {v : AV} {cs : List AV} (h : OwnS k σ v cs n) (hb : ∀ b ∈ blkOf v, σ'.get b = σ.get b) : OwnS k σ' v cs n := by
  rcases h with h | ⟨b, rfl, hg, hl⟩
  · exact .inl h
  · exact .inr ⟨b, rfl, (hb b (by simp [blkOf])).trans hg, hl⟩
theorem OwnS.lt {k n : Nat} {σ : Mem} {v : AV} {cs : List AV} (h : OwnS k σ v cs n) (live : σ.Live) : ∀ b ∈ blkOf v, b < σ.next := by
  rcases h with ⟨rfl, _⟩ | ⟨b, rfl, hg, _⟩
  · intro b hb; simp [blkOf] at hb
  · intro c hc; simp [blkOf] at hc; subst hc; exact live.lt hg
theorem OwnS.one {k n : Nat} {σ : Mem} {v : AV} {cs : List AV} (h : OwnS k σ v cs n) : v.one = true := by
  rcases h with ⟨rfl, _⟩ | ⟨b, rfl, _⟩ <;> rfl
theorem OwnS.append {k bytes id n m : Nat} {σ : Mem} {v x : AV} {cs c : List AV} {K : AV → Mem → Prop} (h : OwnS k σ v cs n) (hx : ∀ K : Nat → List AV → Prop, K m c → srcW σ k x K) (hm : m = 0 → c = []) (hc : c.length = m * k)
    (h1 : c.all AV.one = true) (h2 : cs.all AV.one = true) (hr : (n + m) * bytes ≤ 140737488355328 ∧ n + m ≤ 9223372036854775806) (hid : id ∉ blkOf v)
    (hk : ∀ v' σ', OwnS k σ' v' (cs ++ c) (n + m) → σ'.next = σ.next → (∀ b, b ∉ blkOf v → b ≠ id → σ'.get b = σ.get b) → (∀ b ∈ blkOf v', b ∈ blkOf v ∨ b = id) → K v' σ') : apW k bytes id σ v x K := by
  unfold apW
  refine hx _ ⟨h1, ?_⟩
  rcases h with ⟨rfl, rfl, rfl⟩ | ⟨b, rfl, hg, hl⟩
  · refine ⟨fun e => ?_, fun e => ⟨by rw [Nat.zero_add] at hr; exact hr, ?_⟩⟩
    · subst e
      have := hm rfl
      subst this
      exact hk _ _ (.inl ⟨rfl, rfl, rfl⟩) rfl (fun _ _ _ => rfl) (fun b hb => .inl hb)
    · refine hk _ _ (.inr ⟨id, by simp, by simp [Mem.get_put_self], by simp [hc]⟩) rfl (fun b _ hb => Mem.get_put_ne _ hb _) (fun b hb => ?_)
      simp [blkOf] at hb; exact .inr hb
  · refine ⟨fun e => ?_, fun e => ?_⟩
    · subst e
      have := hm rfl
      subst this
      exact hk _ _ (.inr ⟨b, rfl, by simpa using hg, by simpa using hl⟩) rfl (fun _ _ _ => rfl) (fun b hb => .inl hb)
    · refine opt hg ?_
      refine ⟨⟨rfl, rfl, Nat.le_of_eq hl.symm⟩, hr, h2, ?_⟩
      rw [← hl, List.take_length]
      refine hk _ _ (.inr ⟨id, by simp, by simp [Mem.get_put_self], ?_⟩) rfl (fun b' hb' hb => ?_) (fun b hb => ?_)
      · rw [List.length_append, hl, hc, Nat.add_mul]
      · simp [blkOf] at hb'
        rw [Mem.get_put_ne _ hb, Mem.get_put_ne _ hb']
      · simp [blkOf] at hb; exact .inr hb
theorem src_new {σ : Mem} {k b n m : Nat} {c : Cap} {l : List AV} (h : σ.get b = some (.rw l)) (hl : l.length = m * k) (hn : n = m) (K : Nat → List AV → Prop) (hk : K m l) : srcW σ k (.slice b 0 n c) K := by
  subst hn
  refine opt (a := σ.cells b 0 (n * k)) (v := l) ?_ hk
  rw [Mem.cells_of h, if_pos (by omega), List.drop_zero, ← hl, List.take_length]
structure Grow (o o' : List Nat) (σ σ' : Mem) : Prop where
  only : Mem.Only o σ σ'
  new : ∀ b ∈ o', b ∈ o ∨ σ.next ≤ b
  lt : ∀ b ∈ o', b < σ'.next
theorem Grow.refl {o : List Nat} {σ : Mem} (h : ∀ b ∈ o, b < σ.next) : Grow o o σ σ := ⟨.refl _ _, fun _ hb => .inl hb, h⟩
theorem Grow.trans {o o' o'' : List Nat} {σ σ' σ'' : Mem} (h : Grow o o' σ σ') (h' : Grow o' o'' σ' σ'') : Grow o o'' σ σ'' := by
  refine ⟨⟨Nat.le_trans h.only.next h'.only.next, fun b hb hn => ?_⟩, fun b hb => ?_, h'.lt⟩
  · refine (h'.only.get b (Nat.lt_of_lt_of_le hb h.only.next) fun hm => ?_).trans (h.only.get b hb hn)
    rcases h.new b hm with h1 | h1
    · exact hn h1
    · omega
  · rcases h'.new b hb with h1 | h1
    · exact h.new b h1
    · exact .inr (Nat.le_trans h.only.next h1)
theorem Grow.bump {o o' : List Nat} {σ σ' : Mem} (h : Grow o o' σ σ') (n : Nat) : Grow o o' σ (σ'.bump n) := ⟨h.only.bump n, h.new, fun b hb => Nat.lt_of_lt_of_le (h.lt b hb) (Nat.le_add_right _ _)⟩
theorem Grow.ob {o o' : List Nat} {σ σ' : Mem} {n : Nat} (h : Grow o o' (σ.bump n) σ') : Grow o o' σ σ' := ⟨h.only.ob, fun b hb => (h.new b hb).imp id fun h => Nat.le_trans (Nat.le_add_right _ _) h, h.lt⟩
theorem Grow.then {o o' : List Nat} {σ σ' σ'' : Mem} (h : Grow o o' σ σ') (h' : σ'.Same σ'') : Grow o o' σ σ'' := ⟨h.only.then h', h.new, fun b hb => Nat.lt_of_lt_of_le (h.lt b hb) h'.next⟩
end Go.Vit
end

section
namespace Go.Vit
end Go.Vit
end
