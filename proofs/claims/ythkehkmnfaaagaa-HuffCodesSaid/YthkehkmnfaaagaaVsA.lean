/- The words of the printed conditions: what each operation asks and hands on, over numbers, strings and abstract values; and that they are right. -/
import Derived.Test.YthkehkmnfaaagaaVitX
set_option linter.unusedVariables false
set_option linter.unusedSimpArgs false
namespace Go.Vit

/-- What kind of thing a temporary holds: an integer, a bool, a string, or any value. -/
inductive Tag where
  | i (k : IntKind)
  | b
  | s
  | v
@[reducible] def Tag.Ty : Tag → Type
  | .i _ => Int
  | .b => Bool
  | .s => ByteArray
  | .v => AV
def Tag.inj : (g : Tag) → g.Ty → AV
  | .i k, n => .int k n
  | .b, x => .bool x
  | .s, x => .str x
  | .v, x => x
def kindNo : IntKind → Nat
  | .i8 => 0 | .i16 => 1 | .i32 => 2 | .i64 => 3 | .u8 => 4 | .u16 => 5 | .u32 => 6 | .u64 => 7
def kindEq (a b : IntKind) : Bool := Nat.beq (kindNo a) (kindNo b)
theorem kindEq_eq {a b : IntKind} (h : kindEq a b = true) : a = b := by
  cases a <;> cases b <;> first | rfl | exact absurd h (by decide)
/-- A condition that is computed. -/
def ifB (b : Bool) (x y : Prop) : Prop :=
  match b with
  | true => x
  | false => y
theorem ifB_and {b : Bool} {x : Prop} (h : ifB b x False) : b = true ∧ x := by
  cases b with
  | true => exact ⟨rfl, h⟩
  | false => exact h.elim
def castI (k : IntKind) (v : AV) (K : Int → Prop) : Prop :=
  match v with
  | .int k' n => ifB (kindEq k k') (K n) False
  | _ => False
def castB (v : AV) (K : Bool → Prop) : Prop :=
  match v with
  | .bool b => K b
  | _ => False
def castS (v : AV) (K : ByteArray → Prop) : Prop :=
  match v with
  | .str s => K s
  | _ => False
def castW (g : Tag) (v : AV) (K : g.Ty → Prop) : Prop :=
  match g, K with
  | .i k, K => castI k v K
  | .b, K => castB v K
  | .s, K => castS v K
  | .v, K => K v
theorem castW_spec {g : Tag} {v : AV} {K : g.Ty → Prop} (h : castW g v K) : ∃ x, v = g.inj x ∧ K x := by
  cases g with
  | i k =>
    simp only [castW] at h
    unfold castI at h
    split at h
    · obtain ⟨h1, h2⟩ := ifB_and h
      have := kindEq_eq h1
      subst this
      exact ⟨_, rfl, h2⟩
    · exact h.elim
  | b =>
    simp only [castW] at h
    unfold castB at h
    split at h
    · exact ⟨_, rfl, h⟩
    · exact h.elim
  | s =>
    simp only [castW] at h
    unfold castS at h
    split at h
    · exact ⟨_, rfl, h⟩
    · exact h.elim
  | v => exact ⟨v, rfl, h⟩
def letW {α : Type} (a : α) (K : α → Prop) : Prop := K a
/-- An integer that is wrapped into its kind. -/
def wrW (k : IntKind) (n : Int) (K : Int → Prop) : Prop := K (k.wrap n)
def quoW (k : IntKind) (a b : Int) (K : Int → Prop) : Prop := b ≠ 0 ∧ K (k.wrap (a.tdiv b))
def remW (a b : Int) (K : Int → Prop) : Prop := b ≠ 0 ∧ K (a.tmod b)
def pow2 (n : Nat) : Int := ((2 ^ n : Nat) : Int)
def shAmt (b : Int) (bits : Nat) : Nat := if b.toNat ≤ bits then b.toNat else bits
def shlW (k : IntKind) (a b : Int) (K : Int → Prop) : Prop := 0 ≤ b ∧ K (k.wrap (a * pow2 (shAmt b k.bits)))
def shrW (k : IntKind) (a b : Int) (K : Int → Prop) : Prop := 0 ≤ b ∧ K (a / pow2 (shAmt b k.bits))
theorem pow2_eq (n : Nat) : pow2 n = 2 ^ n := by simp [pow2]
theorem pow2_pos (n : Nat) : 0 < pow2 n := by unfold pow2; exact Int.ofNat_lt.2 (Nat.pow_pos (by decide))
/-- A shift by a number that stands in the text. -/
def shcAmt (bits : Nat) : Int → Option Nat
  | .ofNat n => some (if n ≤ bits then n else bits)
  | .negSucc _ => none
def shlcW (k : IntKind) (a n : Int) (K : Int → Prop) : Prop :=
  match shcAmt k.bits n with
  | some n => wrW k (a * pow2 n) K
  | none => False
def shrcW (k : IntKind) (a n : Int) (K : Int → Prop) : Prop :=
  match shcAmt k.bits n with
  | some n => K (a / pow2 n)
  | none => False
def AOpd.lit : AOpd → Option Int
  | .const (.int _ n) => some n
  | _ => none
theorem shInt_shl {k : IntKind} {a b : Int} (h : 0 ≤ b) : shInt .shl k a b = some (.int k (k.wrap (a * pow2 (shAmt b k.bits)))) := by
  simp only [shInt]
  rw [if_neg (by omega), pow2_eq, shAmt, ← Nat.min_def]
theorem shInt_shr {k : IntKind} {a b : Int} (h : 0 ≤ b) : shInt .shr k a b = some (.int k (a / pow2 (shAmt b k.bits))) := by
  simp only [shInt]
  rw [if_neg (by omega), ← Int.fdiv_eq_ediv_of_nonneg _ (Int.le_of_lt (pow2_pos _)), pow2_eq, shAmt, ← Nat.min_def]
theorem shcAmt_spec {bits n : Nat} {b : Int} (h : shcAmt bits b = some n) : 0 ≤ b ∧ shAmt b bits = n := by
  cases b with
  | ofNat m =>
    simp only [shcAmt, Option.some.injEq] at h
    exact ⟨Int.natCast_nonneg m, h⟩
  | negSucc m => simp [shcAmt] at h

def strW (op : BinOp) (a b : ByteArray) (K : AV → Prop) : Prop :=
  match op with
  | .add => a.size + b.size ≤ 9223372036854775807 ∧ K (.str (a ++ b))
  | .eql => K (.bool (decide (a = b)))
  | .neq => K (.bool (decide (a ≠ b)))
  | .lss => K (.bool (Op.bytesLess (bytesL a) (bytesL b)))
  | .leq => K (.bool (Op.bytesLess (bytesL a) (bytesL b) || decide (a = b)))
  | .gtr => K (.bool (!(Op.bytesLess (bytesL a) (bytesL b) || decide (a = b))))
  | .geq => K (.bool (!Op.bytesLess (bytesL a) (bytesL b)))
  | _ => False
theorem strW_spec {op : BinOp} {a b : ByteArray} {K : AV → Prop} (h : strW op a b K) : ∃ v, binStr op a b = some v ∧ K v :=
  binSW_spec (by cases op <;> exact h)
def intW (op : BinOp) (k : IntKind) (a b : Int) (K : AV → Prop) : Prop :=
  match op with
  | .add => wrW k (a + b) fun c => K (.int k c)
  | .sub => wrW k (a - b) fun c => K (.int k c)
  | .mul => wrW k (a * b) fun c => K (.int k c)
  | .quo => quoW k a b fun c => K (.int k c)
  | .rem => remW a b fun c => K (.int k c)
  | .and => K (.int k (bitsOp .and k a b))
  | .or => K (.int k (bitsOp .or k a b))
  | .xor => K (.int k (bitsOp .xor k a b))
  | .andNot => K (.int k (bitsOp .andNot k a b))
  | .eql => K (.bool (decide (a = b)))
  | .neq => K (.bool (decide (a ≠ b)))
  | .lss => K (.bool (decide (a < b)))
  | .leq => K (.bool (decide (a ≤ b)))
  | .gtr => K (.bool (decide (b < a)))
  | .geq => K (.bool (decide (b ≤ a)))
  | _ => False
theorem intW_spec {op : BinOp} {k : IntKind} {a b : Int} {K : AV → Prop} (h : intW op k a b K) : ∃ v, binInt op k a b = some v ∧ K v := by
  cases op <;> simp only [intW] at h <;> simp only [binInt]
  case quo => rw [if_neg h.1]; exact ⟨_, rfl, h.2⟩
  case rem => rw [if_neg h.1]; exact ⟨_, rfl, h.2⟩
  case eql => exact ⟨_, rfl, by rw [show (a == b) = decide (a = b) from rfl]; exact h⟩
  case neq => exact ⟨_, rfl, by rw [show (a != b) = decide (a ≠ b) from by by_cases e : a = b <;> simp [e]]; exact h⟩
  all_goals first | exact h.elim | exact ⟨_, rfl, h⟩
def binS (op : BinOp) (e : EqK) (x y : AV) (K : AV → Prop) : Prop :=
  match e with
  | .basic => (match x with
    | .int k a => (match y with
      | .int k' b => (match op with
        | .shl => shlW k a b fun c => K (.int k c)
        | .shr => shrW k a b fun c => K (.int k c)
        | op => ifB (kindEq k k') (intW op k a b K) False)
      | _ => False)
    | .str a => (match y with
      | .str b => strW op a b K
      | _ => False)
    | _ => False)
  | e => match op with
    | .eql => eqW e x y fun r => K (.bool r)
    | .neq => eqW e x y fun r => K (.bool (!r))
    | _ => False
theorem eqVal_noint {e : EqK} {k k' : IntKind} {a b : Int} {r : Bool} : eqVal e (.int k a) (.int k' b) ≠ some r := by cases e <;> simp [eqVal]
theorem eqVal_nostr {e : EqK} {a b : ByteArray} {r : Bool} : eqVal e (.str a) (.str b) ≠ some r := by cases e <;> simp [eqVal]
theorem binV_eql {e : EqK} {x y : AV} {r : Bool} (h : eqVal e x y = some r) : binV .eql e x y = some (.bool r) ∧ binV .neq e x y = some (.bool (!r)) := by
  unfold binV
  split
  · exact absurd h eqVal_noint
  · exact absurd h eqVal_nostr
  · simp [h]
theorem binS_spec {op : BinOp} {e : EqK} {x y : AV} {K : AV → Prop} (h : binS op e x y K) : ∃ v, binV op e x y = some v ∧ K v := by
  unfold binS at h
  split at h
  · split at h
    · split at h
      · split at h
        · obtain ⟨h0, h⟩ := h; exact ⟨_, shInt_shl h0, h⟩
        · obtain ⟨h0, h⟩ := h; exact ⟨_, shInt_shr h0, h⟩
        · rename_i h1 h2
          obtain ⟨hk, h3⟩ := ifB_and h
          have := kindEq_eq hk
          subst this
          obtain ⟨v, hv, h4⟩ := intW_spec h3
          refine ⟨v, ?_, h4⟩
          unfold binV
          cases op <;> first | exact (h1 rfl).elim | exact (h2 rfl).elim | (simp only [if_true]; exact hv)
      · exact h.elim
    · split at h
      · exact strW_spec h
      · exact h.elim
    · exact h.elim
  · split at h
    · obtain ⟨r, hr, h⟩ := eqW_spec h
      exact ⟨_, (binV_eql hr).1, h⟩
    · obtain ⟨r, hr, h⟩ := eqW_spec h
      exact ⟨_, (binV_eql hr).2, h⟩
    · exact h.elim
/-- The same, with a shift by a number of the text told apart. -/
def bin2S (op : BinOp) (e : EqK) (x y : AV) (l : Option Int) (K : AV → Prop) : Prop :=
  match l with
  | some n => (match op with
    | .shl => (match e with
      | .basic => castW2 x fun k a => shlcW k a n fun c => K (.int k c)
      | _ => False)
    | .shr => (match e with
      | .basic => castW2 x fun k a => shrcW k a n fun c => K (.int k c)
      | _ => False)
    | op => binS op e x y K)
  | none => binS op e x y K
where castW2 (x : AV) (K : IntKind → Int → Prop) : Prop :=
  match x with
  | .int k a => K k a
  | _ => False
theorem bin2S_spec {op : BinOp} {e : EqK} {x : AV} {yo : AOpd} {y : AV} {t : Tmps} {K : AV → Prop} (hy : yo.ev t = some y) (h : bin2S op e x y yo.lit K) : ∃ v, binV op e x y = some v ∧ K v := by
  unfold bin2S at h
  split at h
  · rename_i l n hl
    have hyn : ∃ k, y = .int k n := by
      cases yo with
      | const c =>
        cases c <;> simp only [AOpd.lit, reduceCtorEq, Option.some.injEq] at hl
        subst hl
        simp only [AOpd.ev, Option.some.injEq] at hy
        exact ⟨_, hy.symm⟩
      | _ => simp [AOpd.lit] at hl
    obtain ⟨k', rfl⟩ := hyn
    split at h
    · split at h
      · unfold bin2S.castW2 at h
        split at h
        · unfold shlcW at h
          split at h
          · rename_i hm
            obtain ⟨h0, h1⟩ := shcAmt_spec hm
            refine ⟨_, shInt_shl h0, ?_⟩
            rw [h1]; exact h
          · exact h.elim
        · exact h.elim
      · exact h.elim
    · split at h
      · unfold bin2S.castW2 at h
        split at h
        · unfold shrcW at h
          split at h
          · rename_i hm
            obtain ⟨h0, h1⟩ := shcAmt_spec hm
            refine ⟨_, shInt_shr h0, ?_⟩
            rw [h1]; exact h
          · exact h.elim
        · exact h.elim
      · exact h.elim
    · exact binS_spec h
  · exact binS_spec h

def unS (op : UnOp) (x : AV) (K : AV → Prop) : Prop :=
  match op with
  | .neg => (match x with
    | .int k n => wrW k (0 - n) fun c => K (.int k c)
    | _ => False)
  | .xor => (match x with
    | .int k n => K (.int k (bitsOp .xor k (ifV k.signed (-1) k.max) n))
    | _ => False)
  | .not => (match x with
    | .bool b => K (.bool (!b))
    | _ => False)
  | _ => False
where ifV (b : Bool) (x y : Int) : Int :=
  match b with
  | true => x
  | false => y
theorem unS_spec {op : UnOp} {x : AV} {K : AV → Prop} (h : unS op x K) : ∃ v, unV op x = some v ∧ K v := by
  unfold unS at h
  split at h
  · split at h
    · exact ⟨_, rfl, h⟩
    · exact h.elim
  · split at h
    · refine ⟨_, rfl, ?_⟩
      rename_i k n
      cases hs : k.signed <;> rw [hs] at h <;> simpa [unS.ifV] using h
    · exact h.elim
  · split at h
    · exact ⟨_, rfl, h⟩
    · exact h.elim
  · exact h.elim

/-! ### Parts of values -/
def cellOkW (v : AV) (size : Nat) (X : Prop) : Prop :=
  match v with
  | .agg l => (l.length = size ∧ l.all AV.one = true) ∧ X
  | .tup _ => False
  | _ => ifB (Nat.beq size 1) X False
theorem cellOkW_spec {v : AV} {size : Nat} {X : Prop} (h : cellOkW v size X) : (v.cells.length = size ∧ v.cells.all AV.one = true) ∧ X := by
  cases v <;> simp only [cellOkW] at h
  case agg l => exact h
  all_goals
    obtain ⟨h1, h2⟩ := ifB_and h
    have := Nat.eq_of_beq_eq_true h1
    subst this
    exact ⟨⟨rfl, rfl⟩, h2⟩
def fillS (n : Nat) (t : Tmps) (l : List AV) : List (Nat × Nat × AOpd) → (List AV → Prop) → Prop
  | [], k => k l
  | (off, size, x) :: rest, k => evW x t fun v => cellOkW v size (ifB (Nat.ble (off + size) n) (fillS n t (setAt l off v.cells) rest k) False)
theorem fillS_spec {n : Nat} {t : Tmps} : ∀ {ps : List (Nat × Nat × AOpd)} {l : List AV} {k : List AV → Prop}, l.length = n → fillS n t l ps k → ∃ l', fillA t l ps = some l' ∧ k l'
  | [], l, k, _, h => ⟨l, rfl, h⟩
  | (off, size, x) :: ps, l, k, hn, h => by
    obtain ⟨v, hv, h⟩ := evW_spec h
    obtain ⟨⟨h1, h2⟩, h⟩ := cellOkW_spec h
    obtain ⟨h3, h⟩ := ifB_and h
    obtain ⟨l', hl, h⟩ := fillS_spec (by rw [setAt_length]; exact hn) h
    refine ⟨l', ?_, h⟩
    simp only [fillA, hv, Option.bind_some]
    rw [if_pos ⟨h1, by have := Nat.le_of_ble_eq_true h3; omega, h2⟩]
    exact hl
/-- A single value: no struct. -/
def oneW (v : AV) (X : Prop) : Prop :=
  match v with
  | .agg _ => False
  | .tup _ => False
  | _ => X
/-! ### Reading -/
def ldW (σ : Mem) (v : AV) (K : AV → Prop) : Prop :=
  match v with
  | .ptr b o => optW (σ.cell b o) K
  | _ => False
def ldnW (n : Nat) (σ : Mem) (v : AV) (K : AV → Prop) : Prop :=
  match v with
  | .ptr b o => optW (σ.cells b o n) fun c => K (.agg c)
  | _ => False
def nchkW (v : AV) (K : AV → Prop) : Prop :=
  match v with
  | .ptr b o => K (.ptr b o)
  | .func f c => K (.func f c)
  | _ => False
def bstrW (σ : Mem) (v : AV) (K : ByteArray → Prop) : Prop :=
  match v with
  | .nils => K ByteArray.empty
  | .slice b o n _ => optW ((σ.cells b o n).bind toBytes) fun r => K ⟨r.toArray⟩
  | _ => False
def sbytesW (s : ByteArray) (X : Prop) : Prop := s.size ≤ 9223372036854775806 ∧ X
def repl (n : Nat) (z : List AV) : List AV :=
  match z with
  | [a] => List.replicate n a
  | z => (List.replicate n z).flatten
theorem repl_eq (n : Nat) (z : List AV) : repl n z = (List.replicate n z).flatten := by
  unfold repl
  split
  · rename_i a
    induction n with
    | zero => rfl
    | succ n ih => rw [List.replicate_succ, List.replicate_succ, List.flatten_cons, ← ih]; rfl
  · rfl
def makeW (bytes : Nat) (n c : Int) (X : Prop) : Prop := (0 ≤ n ∧ n ≤ c ∧ (bytes : Int) * c ≤ 140737488355328 ∧ c ≤ 9223372036854775807) ∧ X
def subW (s : ByteArray) (lo hi : Int) (K : ByteArray → Prop) : Prop := (0 ≤ lo ∧ lo ≤ hi ∧ hi ≤ s.size) ∧ K (s.extract lo.toNat hi.toNat)
def optI (v : Option AV) (K : Option Int → Prop) : Prop :=
  match v with
  | none => K none
  | some (.int _ n) => K (some n)
  | some _ => False
theorem optI_spec {v : Option AV} {K : Option Int → Prop} (h : optI v K) : (v = none ∧ K none) ∨ ∃ k n, v = some (.int k n) ∧ K (some n) := by
  unfold optI at h
  split at h
  · exact .inl ⟨rfl, h⟩
  · exact .inr ⟨_, _, rfl, h⟩
  · exact h.elim
def orD (d : Int) : Option Int → Int
  | none => d
  | some n => n
/-- Bounds, as the model has them, of bounds that are numbers. -/
theorem bounds_of {len cap : Nat} {lo hi : Option AV} {lo' hi' : Option Int} (hl : (lo = none ∧ lo' = none) ∨ ∃ k n, lo = some (.int k n) ∧ lo' = some n) (hh : (hi = none ∧ hi' = none) ∨ ∃ k n, hi = some (.int k n) ∧ hi' = some n)
    (h0 : 0 ≤ orD 0 lo') (h1 : orD 0 lo' ≤ orD len hi') (h2 : orD len hi' ≤ cap) : sliceBoundsA len cap lo hi none = some ((orD 0 lo').toNat, (orD len hi').toNat, cap) := by
  unfold sliceBoundsA
  rcases hh with ⟨rfl, rfl⟩ | ⟨k, n, rfl, rfl⟩ <;> rcases hl with ⟨rfl, rfl⟩ | ⟨k', m, rfl, rfl⟩ <;> simp only [orD] at h0 h1 h2 ⊢
  · simp
  · simp only [bnd, AV.asI, Option.bind_some, Option.isSome_none, Bool.false_eq_true, if_false]
    rw [if_pos ⟨h0, h1⟩]; simp
  · simp only [bnd, AV.asI, Option.bind_some]
    rw [if_pos ⟨by omega, h2⟩]; simp
  · simp only [bnd, AV.asI, Option.bind_some]
    rw [if_pos ⟨by omega, h2⟩]
    simp only [Option.bind_some]
    rw [if_pos ⟨h0, by omega⟩]; simp
def slcW (size : Nat) (v : AV) (lo hi : Option Int) (K : AV → Prop) : Prop :=
  match v with
  | .slice b o n c => (c.fits size = true ∧ 0 ≤ orD 0 lo ∧ orD 0 lo ≤ orD n hi ∧ orD n hi ≤ c.least n) ∧
      K (.slice b (o + (orD 0 lo).toNat * size) ((orD n hi).toNat - (orD 0 lo).toNat) (c.cut false (orD 0 lo).toNat (c.least n)))
  | .nils => (0 ≤ orD 0 lo ∧ orD 0 lo ≤ orD (0 : Nat) hi ∧ orD (0 : Nat) hi ≤ (0 : Nat)) ∧ K .nils
  | _ => False
/-- With three indexes. -/
def slc3W (size : Nat) (v : AV) (lo : Option Int) (hi mx : Int) (K : AV → Prop) : Prop :=
  match v with
  | .slice b o n c => (c.fits size = true ∧ 0 ≤ orD 0 lo ∧ orD 0 lo ≤ hi ∧ hi ≤ mx ∧ mx ≤ c.least n) ∧
      K (.slice b (o + (orD 0 lo).toNat * size) (hi.toNat - (orD 0 lo).toNat) (c.cut true (orD 0 lo).toNat mx.toNat))
  | _ => False
def slaW (len size : Nat) (v : AV) (lo hi : Option Int) (K : AV → Prop) : Prop :=
  match v with
  | .ptr b o => (0 ≤ orD 0 lo ∧ orD 0 lo ≤ orD len hi ∧ orD len hi ≤ len) ∧
      K (.slice b (o + (orD 0 lo).toNat * size) ((orD len hi).toNat - (orD 0 lo).toNat) (.ex (len - (orD 0 lo).toNat)))
  | _ => False
def fldW (off : Nat) (v : AV) (K : AV → Prop) : Prop :=
  match v with
  | .ptr b o => K (.ptr b (o + off))
  | _ => False
def aggW (off : Nat) (k : Option Nat) (v : AV) (K : AV → Prop) : Prop :=
  match v with
  | .agg l => optW (partA l off k) K
  | _ => False
def idxW (size : Nat) (v : AV) (j : Int) (K : AV → Prop) : Prop :=
  match v with
  | .slice b o n _ => (0 ≤ j ∧ j < n) ∧ K (.ptr b (o + j.toNat * size))
  | _ => False
def idxAW (len size : Nat) (v : AV) (j : Int) (K : AV → Prop) : Prop :=
  match v with
  | .ptr b o => (0 ≤ j ∧ j < len) ∧ K (.ptr b (o + j.toNat * size))
  | _ => False
def sidxW (s : ByteArray) (j : Int) (K : Int → Prop) : Prop := (0 ≤ j ∧ j < s.size) ∧ K (byteAt s j.toNat : Nat)
def aidxW (len size : Nat) (k : Option Nat) (v : AV) (j : Int) (K : AV → Prop) : Prop :=
  match v with
  | .agg l => (0 ≤ j ∧ j < len) ∧ optW (partA l (j.toNat * size) k) K
  | _ => False
def tupW (v : AV) (i : Nat) (K : AV → Prop) : Prop :=
  match v with
  | .tup l => optW l[i]? K
  | _ => False
def slenW (v : AV) (K : Int → Prop) : Prop :=
  match v with
  | .nils => K 0
  | .slice _ _ n _ => K (n : Nat)
  | _ => False
def mlenW (σ : Mem) (v : AV) (K : Int → Prop) : Prop :=
  match v with
  | .nilm => K 0
  | .map b => optW (σ.get b) fun q => (match q with
    | .map es _ => K (es.length : Nat)
    | _ => False)
  | _ => False
def lookW (σ : Mem) (z : AV) (ok : Bool) (v kv : AV) (K : AV → Prop) : Prop :=
  match v with
  | .nilm => K (if ok then .tup [z, .bool false] else z)
  | .map b => optW (σ.get b) fun q => (match q with
    | .map es _ => optW (findK kv es) fun r => (match r with
      | some i => optW es[i]? fun e => K (if ok then .tup [e.2.1, .bool true] else e.2.1)
      | none => K (if ok then .tup [z, .bool false] else z))
    | _ => False)
  | _ => False
def imax (a b : Int) : Int := if b > a then b else a
def imin (a b : Int) : Int := if b < a then b else a
def mmW (mx : Bool) : AV → List AV → (AV → Prop) → Prop
  | a, [], K => K a
  | a, b :: l, K => (match a with
    | .int k x => (match b with
      | .int k' y => ifB (kindEq k k') (mmW mx (.int k (mm mx x y)) l K) False
      | _ => False)
    | _ => False)
where mm (mx : Bool) (x y : Int) : Int :=
  match mx with
  | true => imax x y
  | false => imin x y
theorem mmW_spec {mx : Bool} : ∀ {l : List AV} {a : AV} {K : AV → Prop}, mmW mx a l K → ∃ r, minmaxL mx a l = some r ∧ K r
  | [], a, K, h => ⟨a, rfl, h⟩
  | b :: l, a, K, h => by
    unfold mmW at h
    split at h
    · split at h
      · obtain ⟨hk, h2⟩ := ifB_and h
        have := kindEq_eq hk
        subst this
        obtain ⟨r, hr, h3⟩ := mmW_spec h2
        refine ⟨r, ?_, h3⟩
        rw [← hr]
        simp only [minmaxL, minmaxV, if_true, Option.bind_some]
        cases mx <;> rfl
      · exact h.elim
    · exact h.elim
def evoS (x : Option AOpd) (t : Tmps) (k : Option Int → Prop) : Prop :=
  match x with
  | none => k none
  | some x => evW x t fun v => (match v with
    | .int _ n => k (some n)
    | _ => False)
theorem evoS_spec {x : Option AOpd} {t : Tmps} {k : Option Int → Prop} (h : evoS x t k) : ∃ o o', evo t x = some o ∧ ((o = none ∧ o' = none ∧ x = none) ∨ ∃ k n, o = some (.int k n) ∧ o' = some n) ∧ k o' := by
  cases x with
  | none => exact ⟨none, none, rfl, .inl ⟨rfl, rfl, rfl⟩, h⟩
  | some x =>
    obtain ⟨v, hv, h⟩ := evW_spec h
    cases v <;> simp only at h
    rename_i k n
    exact ⟨_, _, by simp [evo, hv], .inr ⟨k, n, rfl, rfl⟩, h⟩
end Go.Vit
