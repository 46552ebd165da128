/- What code comes to, as conditions that a proof meets one by one: the same meaning with its tests as conjunctions. -/
import Derived.Test.YthkehkmnfaaagaaVitU
set_option linter.unusedVariables false
set_option linter.unusedSimpArgs false
namespace Go.Vit

def optW {α : Type} (o : Option α) (k : α → Prop) : Prop :=
  match o with
  | some a => k a
  | none => False
theorem optW_some {α : Type} (a : α) (k : α → Prop) : optW (some a) k = k a := rfl
theorem optW_spec {α : Type} {o : Option α} {k : α → Prop} (h : optW o k) : ∃ a, o = some a ∧ k a := by
  cases o with
  | none => exact h.elim
  | some a => exact ⟨a, rfl, h⟩
/-- A fork. -/
def bW (b : Bool) (x y : Prop) : Prop := (b = true → x) ∧ (b = false → y)
theorem bW_true (x y : Prop) : bW true x y = x := by simp [bW]
theorem bW_false (x y : Prop) : bW false x y = y := by simp [bW]
theorem bW_decide (p x y : Prop) [Decidable p] : bW (decide p) x y = ((p → x) ∧ (¬ p → y)) := by simp [bW]
/-- A choice that is known. -/
def selW (b : Bool) (x y : Prop) : Prop :=
  match b with
  | true => x
  | false => y
theorem selW_true (x y : Prop) : selW true x y = x := rfl
theorem selW_false (x y : Prop) : selW false x y = y := rfl
def evW (x : AOpd) (t : Tmps) (k : AV → Prop) : Prop :=
  match x with
  | .tmp i => optW (Tr.get t i) k
  | .const v => k v
  | .glob g => k (.ptr g 0)
def evsW : List AOpd → Tmps → (List AV → Prop) → Prop
  | [], _, k => k []
  | x :: xs, t, k => evW x t fun v => evsW xs t fun vs => k (v :: vs)
def evoW (x : Option AOpd) (t : Tmps) (k : Option AV → Prop) : Prop :=
  match x with
  | none => k none
  | some x => evW x t fun v => k (some v)
def AV.okParts (v : AV) (size : Nat) : Prop :=
  match v with
  | .agg l => l.length = size ∧ l.all AV.one = true
  | .tup _ => False
  | _ => size = 1
def fillW (t : Tmps) (l : List AV) : List (Nat × Nat × AOpd) → (List AV → Prop) → Prop
  | [], k => k l
  | (off, size, x) :: rest, k => evW x t fun v => (v.okParts size ∧ off + size ≤ l.length) ∧ fillW t (setAt l off v.cells) rest k
/-- One cell. -/
def Mem.cell (σ : Mem) (b o : Nat) : Option AV := (σ.get b).bind fun k => k.cellsR.bind fun c => c[o]?
def inI64 (n : Int) : Prop := -9223372036854775808 ≤ n ∧ n ≤ 9223372036854775807
def wrapW (k : IntKind) (n : Int) (K : AV → Prop) : Prop :=
  match k with
  | .i64 => inI64 n ∧ K (.int .i64 n)
  | k => K (.int k (k.wrap n))
def binIW (op : BinOp) (k : IntKind) (a b : Int) (K : AV → Prop) : Prop :=
  match op with
  | .add => wrapW k (a + b) K
  | .sub => wrapW k (a - b) K
  | .mul => wrapW k (a * b) K
  | .quo => b ≠ 0 ∧ wrapW k (a.tdiv b) K
  | .rem => b ≠ 0 ∧ K (.int k (a.tmod b))
  | .and => K (.int k (bitsOp .and k a b))
  | .or => K (.int k (bitsOp .or k a b))
  | .xor => K (.int k (bitsOp .xor k a b))
  | .andNot => K (.int k (bitsOp .andNot k a b))
  | .eql => K (.bool (decide (a = b)))
  | .neq => K (.bool (decide (a ≠ b)))
  | .lss => K (.bool (decide (a < b)))
  | .leq => K (.bool (decide (a ≤ b)))
  | .gtr => K (.bool (decide (b < a)))
  | .geq => K (.bool (decide (b ≤ a)))
  | _ => False
def shW (op : BinOp) (k : IntKind) (a b : Int) (K : AV → Prop) : Prop :=
  match op with
  | .shl => 0 ≤ b ∧ wrapW k (a * 2 ^ (if b.toNat ≤ k.bits then b.toNat else k.bits)) K
  | .shr => 0 ≤ b ∧ K (.int k (a.fdiv (2 ^ (if b.toNat ≤ k.bits then b.toNat else k.bits))))
  | _ => False
def bytesL (s : ByteArray) : List UInt8 := s.data.toList
/-- The byte at a place of a string (0, where there is none). -/
def byteAt (s : ByteArray) (i : Nat) : Nat := ((bytesL s)[i]?.getD 0).toNat
theorem bytesL_length (s : ByteArray) : (bytesL s).length = s.size := Array.length_toList
theorem byteAt_of {s : ByteArray} {i : Nat} {c : UInt8} (h : (bytesL s)[i]? = some c) : byteAt s i = c.toNat := by
  unfold byteAt
  rw [h]; rfl
theorem byteAt_get {s : ByteArray} {i : Nat} (h : i < s.size) : (bytesL s)[i]? = some (UInt8.ofNat (byteAt s i)) := by
  have hl : i < (bytesL s).length := by rw [bytesL_length]; exact h
  unfold byteAt
  rw [List.getElem?_eq_getElem hl]
  simp only [Option.getD_some, UInt8.ofNat_toNat]
theorem byteAt_lt (s : ByteArray) (i : Nat) : byteAt s i < 256 := by
  unfold byteAt
  exact UInt8.toNat_lt ((bytesL s)[i]?.getD 0)
def binSW (op : BinOp) (a b : ByteArray) (K : AV → Prop) : Prop :=
  match op with
  | .add => a.size + b.size ≤ 9223372036854775807 ∧ K (.str (a ++ b))
  | .eql => K (.bool (decide (a = b)))
  | .neq => K (.bool (decide (a ≠ b)))
  | .lss => K (.bool (Op.bytesLess (bytesL a) (bytesL b)))
  | .leq => K (.bool (Op.bytesLess (bytesL a) (bytesL b) || decide (a = b)))
  | .gtr => K (.bool (!(Op.bytesLess (bytesL a) (bytesL b) || decide (a = b))))
  | .geq => K (.bool (!Op.bytesLess (bytesL a) (bytesL b)))
  | _ => False
def scalarW (g : Nat) (a b : AV) (K : Bool → Prop) : Prop :=
  match g, a, b with
  | 0, .bool a, .bool b => K (a == b)
  | 1, .int k a, .int k' b => k = k' ∧ K (decide (a = b))
  | 2, .str a, .str b => K (decide (a = b))
  | _, _, _ => False
def flatW (l l' : List AV) : List (Nat × Nat) → (Bool → Prop) → Prop
  | [], K => K true
  | o :: os, K => optW l[o.1]? fun a => optW l'[o.1]? fun b => scalarW o.2 a b fun r => flatW l l' os fun q => K (r && q)
def eqW (e : EqK) (x y : AV) (K : Bool → Prop) : Prop :=
  match e, x, y with
  | .flat offs, .agg l, .agg l' => flatW l l' offs K
  | .bool, .bool a, .bool b => K (a == b)
  | .ptr, .nilp, .nilp => K true
  | .ptr, .nilp, .ptr _ _ => K false
  | .ptr, .ptr _ _, .nilp => K false
  | .sl, .nils, .nils => K true
  | .sl, .nils, .slice .. => K false
  | .sl, .slice .., .nils => K false
  | .map, .nilm, .nilm => K true
  | .map, .nilm, .map _ => K false
  | .map, .map _, .nilm => K false
  | .func, .nilf, .nilf => K true
  | .func, .nilf, .func _ _ => K false
  | .func, .func _ _, .nilf => K false
  | _, _, _ => False
def binW (op : BinOp) (e : EqK) (x y : AV) (K : AV → Prop) : Prop :=
  match x, y with
  | .int k a, .int k' b =>
    match op with
    | .shl => shW .shl k a b K
    | .shr => shW .shr k a b K
    | op => k = k' ∧ binIW op k a b K
  | .str a, .str b => binSW op a b K
  | x, y =>
    match op with
    | .eql => eqW e x y fun r => K (.bool r)
    | .neq => eqW e x y fun r => K (.bool (!r))
    | _ => False
def unW (op : UnOp) (x : AV) (K : AV → Prop) : Prop :=
  match op, x with
  | .neg, .int k n => wrapW k (-n) K
  | .xor, .int k n => K (.int k (bitsOp .xor k (if k.signed then -1 else k.max) n))
  | .not, .bool b => K (.bool (!b))
  | _, _ => False
def bndW (v : AV) (c : Nat) (K : Nat → Prop) : Prop :=
  match v with
  | .int _ i => (0 ≤ i ∧ i ≤ c) ∧ K i.toNat
  | _ => False
def boundsW (len cap : Nat) (lo hi mx : Option AV) (K : Nat → Nat → Nat → Prop) : Prop :=
  (match mx with
    | some v => bndW v cap
    | none => fun K => K cap) fun m =>
  (match hi with
    | some v => bndW v m
    | none => fun K => if mx.isSome then False else K len) fun h =>
  (match lo with
    | some v => bndW v h
    | none => fun K => K 0) fun l => K l h m

def nopW (id : Nat) (op : AOp) (t : Tmps) (σ : Mem) (K : AV → Prop) (B : AV → Blk → Prop) : Prop :=
  match op with
  | .mov x => evW x t fun v => K v
  | .pick c a b => evW c t fun cv => match cv with
    | .bool r => bW r (evW a t fun v => K v) (evW b t fun v => K v)
    | _ => False
  | .alloc z => B (.ptr id 0) (.rw z)
  | .box x => evW x t fun v => v.cells.all AV.one = true ∧ B (.ptr id 0) (.rw v.cells)
  | .build z ps => fillW t z ps fun l => K (.agg l)
  | .newSlice n z ps => fillW t z ps fun l => B (.slice id 0 n (.ex n)) (.rw l)
  | .load k x => evW x t fun v => match v with
    | .ptr b o => match k with
      | none => optW (σ.cell b o) fun a => K a
      | some n => optW (σ.cells b o n) fun c => K (.agg c)
    | _ => False
  | .nilchk x => evW x t fun v => match v with
    | .ptr b o => K (.ptr b o)
    | .func f c => K (.func f c)
    | _ => False
  | .bin op e x y => evW x t fun a => evW y t fun b => binW op e a b fun v => K v
  | .un op x => evW x t fun a => unW op a fun v => K v
  | .conv c x => evW x t fun a => match c with
    | .toInt k => match a with
      | .int _ n => wrapW k n fun v => K v
      | _ => False
    | .strBytes => match a with
      | .str s => s.size ≤ 9223372036854775806 ∧ B (.slice id 0 s.size (.op 1)) (.rw (bytesOf s))
      | _ => False
    | .bytesStr => match a with
      | .nils => K (.str ByteArray.empty)
      | .slice b o n _ => optW ((σ.cells b o n).bind toBytes) fun r => K (.str ⟨r.toArray⟩)
      | _ => False
    | .same => match a with
      | .str s => K (.str s)
      | _ => False
  | .mkFn f xs => evsW xs t fun l => K (.func f l)
  | .mkMap => B (.map id) (.map [] 0)
  | .make bytes size z n c => evW n t fun nv => evW c t fun cv => match nv, cv with
    | .int _ i, .int _ k => (0 ≤ i ∧ i ≤ k ∧ k ≤ 9223372036854775807 ∧ (bytes : Int) * k ≤ 2 ^ 47 ∧ z.length = size) ∧
        B (.slice id 0 i.toNat (.ex k.toNat)) (.rw (List.replicate k.toNat z).flatten)
    | _, _ => False
  | .slStr x lo hi => evW x t fun a => evoW lo t fun l => evoW hi t fun h => match a with
    | .str s => boundsW s.size s.size l h none fun l h _ => K (.str (s.extract l h))
    | _ => False
  | .slSl size x lo hi mx => evW x t fun a => evoW lo t fun l => evoW hi t fun h => evoW mx t fun m => match a with
    | .slice b o n c => c.fits size = true ∧ boundsW n (c.least n) l h m fun l h m' =>
        K (.slice b (o + l * size) (h - l) (c.cut m.isSome l m'))
    | .nils => boundsW 0 0 l h m fun _ _ _ => K .nils
    | _ => False
  | .slArr len size x lo hi => evW x t fun a => evoW lo t fun l => evoW hi t fun h => match a with
    | .ptr b o => boundsW len len l h none fun l h _ => K (.slice b (o + l * size) (h - l) (.ex (len - l)))
    | _ => False
  | .faddr off x => evW x t fun v => match v with
    | .ptr b o => K (.ptr b (o + off))
    | _ => False
  | .field off k x => evW x t fun v => match v with
    | .agg l => optW (partA l off k) fun r => K r
    | _ => False
  | .iaddrS size x i => evW x t fun v => evW i t fun iv => match v, iv with
    | .slice b o n _, .int _ j => (0 ≤ j ∧ j < n) ∧ K (.ptr b (o + j.toNat * size))
    | _, _ => False
  | .iaddrA len size x i => evW x t fun v => evW i t fun iv => match v, iv with
    | .ptr b o, .int _ j => (0 ≤ j ∧ j < len) ∧ K (.ptr b (o + j.toNat * size))
    | _, _ => False
  | .idxStr x i => evW x t fun v => evW i t fun iv => match v, iv with
    | .str s, .int _ j => (0 ≤ j ∧ j < s.size) ∧ K (.int .u8 (byteAt s j.toNat))
    | _, _ => False
  | .idxArr len size k x i => evW x t fun v => evW i t fun iv => match v, iv with
    | .agg l, .int _ j => (0 ≤ j ∧ j < len) ∧ optW (partA l (j.toNat * size) k) fun r => K r
    | _, _ => False
  | .extract x i => evW x t fun v => match v with
    | .tup l => optW l[i]? fun r => K r
    | _ => False
  | .len q x => evW x t fun v => match q, v with
    | true, .str s => K (.int .i64 s.size)
    | false, .nils => K (.int .i64 0)
    | false, .slice _ _ n _ => K (.int .i64 n)
    | _, _ => False
  | .lenArr n => K (.int .i64 n)
  | .lenMap x => evW x t fun v => match v with
    | .nilm => K (.int .i64 0)
    | .map b => optW (σ.get b) fun q => match q with
      | .map es _ => K (.int .i64 es.length)
      | _ => False
    | _ => False
  | .lookup kk z ok x k => evW x t fun v => evW k t fun kv => isKey kk kv = true ∧ match v with
    | .nilm => K (if ok then .tup [z, .bool false] else z)
    | .map b => optW (σ.get b) fun q => match q with
      | .map es _ => optW (findK kv es) fun r => match r with
        | some i => optW es[i]? fun e => K (if ok then .tup [e.2.1, .bool true] else e.2.1)
        | none => K (if ok then .tup [z, .bool false] else z)
      | _ => False
    | _ => False
  | .minmax mx x xs => evW x t fun v => evsW xs t fun l => optW (minmaxL mx v l) fun r => K r
  | _ => False

def srcW (σ : Mem) (size : Nat) (x : AV) (K : Nat → List AV → Prop) : Prop :=
  match x with
  | .nils => K 0 []
  | .slice b o n _ => optW (σ.cells b o (n * size)) fun c => K n c
  | .str s => size = 1 ∧ K s.size (bytesOf s)
  | _ => False
def roomy (n bytes : Nat) : Prop := n * bytes ≤ 140737488355328 ∧ n ≤ 9223372036854775806
def eopW (id : Nat) (op : AOp) (t : Tmps) (σ : Mem) (K : AV → Mem → Prop) : Prop :=
  match op with
  | .store n a x => evW a t fun av => evW x t fun v => match av with
    | .ptr b o => optW (σ.get b) fun q => match q with
      | .rw c => (v.okParts n ∧ o + n ≤ c.length) ∧ K (.tup []) (σ.put b (some (.rw (setAt c o v.cells))))
      | _ => False
    | _ => False
  | .append size bytes s x => evW s t fun sv => evW x t fun xv => srcW σ size xv fun m c => c.all AV.one = true ∧ match sv with
    | .nils => (m = 0 → K .nils σ) ∧ (m ≠ 0 → roomy m bytes ∧ K (.slice id 0 m (.op size)) (σ.put id (some (.rw c))))
    | .slice b o n q => (m = 0 → K (.slice b o n q) σ) ∧ (m ≠ 0 → match q with
        | .ex k => (n + m ≤ k → optW (σ.get b) fun q => match q with
            | .rw l => o + (n + m) * size ≤ l.length ∧ K (.slice b o (n + m) (.ex k)) (σ.put b (some (.rw (setAt l (o + n * size) c))))
            | _ => False) ∧
            (k < n + m → roomy (n + m) bytes ∧ optW (σ.cells b o (n * size)) fun l =>
              l.all AV.one = true ∧ K (.slice id 0 (n + m) (.op size)) (σ.put id (some (.rw (l ++ c)))))
        | .op s => optW (σ.get b) fun q => match q with
          | .rw l => (s = size ∧ o = 0 ∧ l.length = n * size) ∧ roomy (n + m) bytes ∧ l.all AV.one = true ∧
            K (.slice id 0 (n + m) (.op size)) ((σ.put b none).put id (some (.rw (l ++ c))))
          | _ => False)
    | _ => False
  | .copy size d s => evW d t fun dv => evW s t fun sv => match dv with
    | .nils => (match sv with
      | .nils => True
      | .slice .. => True
      | .str _ => size = 1
      | _ => False) ∧ K (.int .i64 0) σ
    | .slice b o n _ => match sv with
      | .nils => K (.int .i64 0) σ
      | .slice b' o' m _ => optW (σ.cells b' o' (Nat.min m n * size)) fun l => (Nat.min m n = 0 → K (.int .i64 0) σ) ∧
          (Nat.min m n ≠ 0 → optW (σ.get b) fun q => match q with
            | .rw c => (o + l.length ≤ c.length ∧ l.all AV.one = true) ∧ K (.int .i64 (Nat.min m n : Nat)) (σ.put b (some (.rw (setAt c o l))))
            | _ => False)
      | .str s => size = 1 ∧ (Nat.min s.size n = 0 → K (.int .i64 0) σ) ∧
          (Nat.min s.size n ≠ 0 → optW (σ.get b) fun q => match q with
            | .rw c => o + Nat.min s.size n ≤ c.length ∧ K (.int .i64 (Nat.min s.size n : Nat)) (σ.put b (some (.rw (setAt c o ((bytesOf s).take (Nat.min s.size n))))))
            | _ => False)
      | _ => False
    | _ => False
  | op => ∃ v σ', eop id op t σ = some (v, σ') ∧ K v σ'

/-! ### They say the same -/
theorem evW_spec {x : AOpd} {t : Tmps} {k : AV → Prop} (h : evW x t k) : ∃ v, x.ev t = some v ∧ k v := by
  cases x with
  | tmp i =>
    exact optW_spec h
  | const v => exact ⟨v, rfl, h⟩
  | glob g => exact ⟨_, rfl, h⟩
theorem evsW_spec {t : Tmps} : ∀ {xs : List AOpd} {k : List AV → Prop}, evsW xs t k → ∃ l, evs t xs = some l ∧ k l
  | [], k, h => ⟨[], rfl, h⟩
  | x :: xs, k, h => by
    obtain ⟨v, hv, h⟩ := evW_spec h
    obtain ⟨l, hl, h⟩ := evsW_spec h
    exact ⟨v :: l, by simp [evs, hv, hl], h⟩
theorem evoW_spec {x : Option AOpd} {t : Tmps} {k : Option AV → Prop} (h : evoW x t k) : ∃ v, evo t x = some v ∧ k v := by
  cases x with
  | none => exact ⟨none, rfl, h⟩
  | some x =>
    obtain ⟨v, hv, h⟩ := evW_spec h
    exact ⟨some v, by simp [evo, hv], h⟩
theorem okParts_spec {v : AV} {size : Nat} (h : v.okParts size) : v.cells.length = size ∧ v.cells.all AV.one = true := by
  cases v <;> simp_all [AV.okParts, AV.cells, AV.one]
theorem fillW_spec {t : Tmps} : ∀ {ps : List (Nat × Nat × AOpd)} {l : List AV} {k : List AV → Prop}, fillW t l ps k → ∃ l', fillA t l ps = some l' ∧ k l'
  | [], l, k, h => ⟨l, rfl, h⟩
  | (off, size, x) :: ps, l, k, h => by
    obtain ⟨v, hv, ⟨h1, h2⟩, h⟩ := evW_spec h
    obtain ⟨l', hl, h⟩ := fillW_spec h
    have := okParts_spec h1
    refine ⟨l', ?_, h⟩
    simp only [fillA, hv, Option.bind_some]
    rw [if_pos ⟨this.1, h2, this.2⟩]
    exact hl
theorem cell_cells {σ : Mem} {b o : Nat} {a : AV} (h : σ.cell b o = some a) : σ.cells b o 1 = some [a] := by
  simp only [Mem.cell, Option.bind_eq_some_iff] at h
  obtain ⟨k, hk, c, hc, ha⟩ := h
  have hlt : o < c.length := (List.getElem?_eq_some_iff.1 ha).1
  simp only [Mem.cells, hk, hc, Option.bind_some]
  rw [if_pos (by omega)]
  congr 1
  have hd : c.drop o = a :: c.drop (o + 1) := by
    rw [List.drop_eq_getElem_cons hlt]
    rw [List.getElem?_eq_some_iff] at ha
    obtain ⟨_, ha⟩ := ha
    rw [ha]
  rw [hd]; simp
theorem wrapW_spec {k : IntKind} {n : Int} {K : AV → Prop} (h : wrapW k n K) : K (.int k (k.wrap n)) := by
  cases k
  case i64 =>
    obtain ⟨h1, h2⟩ := h
    rw [show IntKind.i64.wrap n = n from by rw [IntKind.wrap_i64]; unfold inI64 at h1; omega]
    exact h2
  all_goals exact h
theorem beq_bytes (a b : ByteArray) : (a.data.toList == b.data.toList) = decide (a = b) := by
  rw [Bool.eq_iff_iff]
  simp only [beq_iff_eq, decide_eq_true_eq]
  constructor
  · intro h; cases a; cases b; simp at h; subst h; rfl
  · intro h; rw [h]
theorem binIW_spec {op : BinOp} {k : IntKind} {a b : Int} {K : AV → Prop} (h : binIW op k a b K) : ∃ v, binInt op k a b = some v ∧ K v := by
  cases op <;> simp only [binIW] at h <;> simp only [binInt]
  case add => exact ⟨_, rfl, wrapW_spec h⟩
  case sub => exact ⟨_, rfl, wrapW_spec h⟩
  case mul => exact ⟨_, rfl, wrapW_spec h⟩
  case quo => rw [if_neg h.1]; exact ⟨_, rfl, wrapW_spec h.2⟩
  case rem => rw [if_neg h.1]; exact ⟨_, rfl, h.2⟩
  case eql => exact ⟨_, rfl, by rw [show (a == b) = decide (a = b) from rfl]; exact h⟩
  case neq => exact ⟨_, rfl, by rw [show (a != b) = decide (a ≠ b) from by by_cases e : a = b <;> simp [e]]; exact h⟩
  all_goals first | exact h.elim | exact ⟨_, rfl, h⟩
theorem shW_spec {op : BinOp} {k : IntKind} {a b : Int} {K : AV → Prop} (h : shW op k a b K) : ∃ v, shInt op k a b = some v ∧ K v := by
  cases op <;> simp only [shW] at h <;> first | exact h.elim | skip
  all_goals
    obtain ⟨h0, h⟩ := h
    simp only [shInt]
    rw [← Nat.min_def] at h
    rw [if_neg (by omega)]
    first
    | exact ⟨_, rfl, h⟩
    | exact ⟨_, rfl, wrapW_spec h⟩
theorem binSW_spec {op : BinOp} {a b : ByteArray} {K : AV → Prop} (h : binSW op a b K) : ∃ v, binStr op a b = some v ∧ K v := by
  cases op <;> simp only [binSW, bytesL] at h <;> simp only [binStr, beq_bytes] <;> first | exact h.elim | skip
  case add => rw [if_pos (by omega)]; exact ⟨_, rfl, h.2⟩
  case neq => exact ⟨_, rfl, by rw [show (!decide (a = b)) = decide (a ≠ b) from by by_cases e : a = b <;> simp [e]]; exact h⟩
  all_goals exact ⟨_, rfl, h⟩
theorem scalarW_spec {g : Nat} {a b : AV} {K : Bool → Prop} (h : scalarW g a b K) : ∃ r, eqScalar g a b = some r ∧ K r := by
  unfold scalarW at h
  split at h
  · exact ⟨_, rfl, h⟩
  · obtain ⟨rfl, h⟩ := h
    refine ⟨_, by simp only [eqScalar, if_true]; rfl, h⟩
  · exact ⟨_, by simp only [eqScalar, beq_bytes], h⟩
  · exact h.elim
theorem flatW_spec {l l' : List AV} : ∀ {os : List (Nat × Nat)} {K : Bool → Prop}, flatW l l' os K → ∃ r, eqFlat l l' os = some r ∧ K r
  | [], K, h => ⟨true, rfl, h⟩
  | o :: os, K, h => by
    obtain ⟨a, ha, h⟩ := optW_spec h
    obtain ⟨b, hb, h⟩ := optW_spec h
    obtain ⟨r, hr, h⟩ := scalarW_spec h
    obtain ⟨q, hq, h⟩ := flatW_spec h
    refine ⟨r && q, ?_, h⟩
    simp only [eqFlat, ha, hb, Option.bind_some, hr]
    cases r <;> simp [hq]
theorem eqW_spec {e : EqK} {x y : AV} {K : Bool → Prop} (h : eqW e x y K) : ∃ r, eqVal e x y = some r ∧ K r := by
  unfold eqW at h
  split at h <;> first | exact flatW_spec h | exact ⟨_, rfl, h⟩ | exact h.elim
theorem binW_spec {op : BinOp} {e : EqK} {x y : AV} {K : AV → Prop} (h : binW op e x y K) : ∃ v, binV op e x y = some v ∧ K v := by
  unfold binW at h
  split at h
  · split at h
    · exact shW_spec h
    · exact shW_spec h
    · rename_i h1 h2
      obtain ⟨rfl, h⟩ := h
      obtain ⟨v, hv, h⟩ := binIW_spec h
      refine ⟨v, ?_, h⟩
      unfold binV
      cases op <;> first | contradiction | (simp only [if_true]; exact hv)
  · exact binSW_spec h
  · rename_i h1 h2
    split at h
    · obtain ⟨r, hr, h⟩ := eqW_spec h
      refine ⟨_, ?_, h⟩
      unfold binV
      split
      · exact (h1 _ _ _ _ rfl rfl).elim
      · exact (h2 _ _ rfl rfl).elim
      · simp [hr]
    · obtain ⟨r, hr, h⟩ := eqW_spec h
      refine ⟨_, ?_, h⟩
      unfold binV
      split
      · exact (h1 _ _ _ _ rfl rfl).elim
      · exact (h2 _ _ rfl rfl).elim
      · simp [hr]
    · exact h.elim
theorem unW_spec {op : UnOp} {x : AV} {K : AV → Prop} (h : unW op x K) : ∃ v, unV op x = some v ∧ K v := by
  unfold unW at h
  split at h
  · have := wrapW_spec h
    refine ⟨_, ?_, this⟩
    simp [unV]
  · exact ⟨_, rfl, h⟩
  · exact ⟨_, rfl, h⟩
  · exact h.elim
theorem bndW_spec {v : AV} {c : Nat} {K : Nat → Prop} (h : bndW v c K) : ∃ n, bnd v c = some n ∧ K n := by
  unfold bndW at h
  split at h
  · obtain ⟨h1, h⟩ := h
    exact ⟨_, by simp only [bnd, AV.asI, Option.bind_some]; rw [if_pos h1], h⟩
  · exact h.elim
theorem boundsW_spec {len cap : Nat} {lo hi mx : Option AV} {K : Nat → Nat → Nat → Prop} (h : boundsW len cap lo hi mx K) : ∃ r, sliceBoundsA len cap lo hi mx = some r ∧ K r.1 r.2.1 r.2.2 := by
  unfold boundsW at h
  unfold sliceBoundsA
  cases mx with
  | none =>
    cases hi with
    | none =>
      simp only [Option.isSome_none, Bool.false_eq_true, if_false] at h
      cases lo with
      | none => exact ⟨_, rfl, h⟩
      | some v =>
        obtain ⟨l, hl, h⟩ := bndW_spec h
        exact ⟨(l, len, cap), by simp [hl], h⟩
    | some u =>
      obtain ⟨q, hq, h⟩ := bndW_spec h
      cases lo with
      | none => exact ⟨(0, q, cap), by simp [hq], h⟩
      | some v =>
        obtain ⟨l, hl, h⟩ := bndW_spec h
        exact ⟨(l, q, cap), by simp [hq, hl], h⟩
  | some x =>
    obtain ⟨m, hm, h⟩ := bndW_spec h
    cases hi with
    | none => exact h.elim
    | some u =>
      obtain ⟨q, hq, h⟩ := bndW_spec h
      cases lo with
      | none => exact ⟨(0, q, m), by simp [hm, hq], h⟩
      | some v =>
        obtain ⟨l, hl, h⟩ := bndW_spec h
        exact ⟨(l, q, m), by simp [hm, hq, hl], h⟩
theorem okEv {x : AOpd} {t : Tmps} {k : AV → Prop} {β : Type} {f : AV → Option β} {R : β → Prop} (h : evW x t k) (hf : ∀ v, k v → ∃ r, f v = some r ∧ R r) : ∃ r, (x.ev t).bind f = some r ∧ R r := by
  obtain ⟨v, hv, h⟩ := evW_spec h
  rw [hv]; exact hf v h
theorem okEvo {x : Option AOpd} {t : Tmps} {k : Option AV → Prop} {β : Type} {f : Option AV → Option β} {R : β → Prop} (h : evoW x t k) (hf : ∀ v, k v → ∃ r, f v = some r ∧ R r) : ∃ r, (evo t x).bind f = some r ∧ R r := by
  obtain ⟨v, hv, h⟩ := evoW_spec h
  rw [hv]; exact hf v h
theorem okEvs {xs : List AOpd} {t : Tmps} {k : List AV → Prop} {β : Type} {f : List AV → Option β} {R : β → Prop} (h : evsW xs t k) (hf : ∀ v, k v → ∃ r, f v = some r ∧ R r) : ∃ r, (evs t xs).bind f = some r ∧ R r := by
  obtain ⟨v, hv, h⟩ := evsW_spec h
  rw [hv]; exact hf v h
theorem okFill {ps : List (Nat × Nat × AOpd)} {l : List AV} {t : Tmps} {k : List AV → Prop} {β : Type} {f : List AV → Option β} {R : β → Prop} (h : fillW t l ps k) (hf : ∀ v, k v → ∃ r, f v = some r ∧ R r) : ∃ r, (fillA t l ps).bind f = some r ∧ R r := by
  obtain ⟨v, hv, h⟩ := fillW_spec h
  rw [hv]; exact hf v h
theorem okBind {α β : Type} {o : Option α} {f : α → Option β} {R : β → Prop} {k : α → Prop} (h : ∃ a, o = some a ∧ k a) (hf : ∀ v, k v → ∃ r, f v = some r ∧ R r) : ∃ r, o.bind f = some r ∧ R r := by
  obtain ⟨v, hv, h⟩ := h
  rw [hv]; exact hf v h

/-- With a new block or with none. -/
def onW (K : AV → Prop) (B : AV → Blk → Prop) (v : AV) : Option Blk → Prop
  | none => K v
  | some b => B v b
theorem nopW_spec {id : Nat} {op : AOp} {t : Tmps} {σ : Mem} {K : AV → Prop} {B : AV → Blk → Prop} (h : nopW id op t σ K B) : ∃ r, nop id op t σ = some r ∧ onW K B r.1 r.2 := by
  cases op <;> simp only [nopW] at h <;> simp only [nop]
  case mov x => exact okEv h fun v h => ⟨(_, _), rfl, h⟩
  case pick c a b =>
    refine okEv h fun v h => ?_
    cases v <;> first | exact h.elim | skip
    rename_i r
    cases r
    · exact okEv (h.2 rfl) fun v h => ⟨(_, _), rfl, h⟩
    · exact okEv (h.1 rfl) fun v h => ⟨(_, _), rfl, h⟩
  case alloc z => exact ⟨(_, _), rfl, h⟩
  case box x => exact okEv h fun v h => ⟨(_, some _), by rw [if_pos h.1], h.2⟩
  case build z ps => exact okFill h fun v h => ⟨(_, _), rfl, h⟩
  case newSlice n z ps => exact okFill h fun v h => ⟨(_, _), rfl, h⟩
  case load k x =>
    refine okEv h fun v h => ?_
    cases v <;> first | exact h.elim | skip
    cases k with
    | none =>
      obtain ⟨a, ha, h⟩ := optW_spec h
      exact ⟨(_, none), by dsimp only; rw [cell_cells ha]; rfl, h⟩
    | some n =>
      obtain ⟨c, hc, h⟩ := optW_spec h
      exact ⟨(_, none), by dsimp only; rw [hc]; rfl, h⟩
  case nilchk x =>
    refine okEv h fun v h => ?_
    cases v <;> first | exact h.elim | exact ⟨(_, _), rfl, h⟩
  case bin op e x y => exact okEv h fun a h => okEv h fun b h => okBind (binW_spec h) fun v h => ⟨(_, _), rfl, h⟩
  case un op x => exact okEv h fun a h => okBind (unW_spec h) fun v h => ⟨(_, _), rfl, h⟩
  case conv c x =>
    refine okEv h fun a h => ?_
    cases c <;> cases a <;> first | exact h.elim | skip
    · exact ⟨_, rfl, wrapW_spec h⟩
    · exact ⟨(_, some _), by dsimp only; rw [if_pos (by omega)], h.2⟩
    · exact ⟨(_, _), rfl, h⟩
    · obtain ⟨r, hr, h⟩ := optW_spec h
      simp only [Option.bind_eq_some_iff] at hr
      obtain ⟨l, hl, hr⟩ := hr
      exact ⟨(_, none), by simp only [hl, Option.bind_some, hr], h⟩
    · exact ⟨(_, _), rfl, h⟩
  case mkFn f xs => exact okEvs h fun v h => ⟨(_, _), rfl, h⟩
  case mkMap => exact ⟨(_, _), rfl, h⟩
  case make bytes size z n c =>
    refine okEv h fun nv h => okEv h fun cv h => ?_
    cases nv <;> cases cv <;> first | exact h.elim | skip
    exact ⟨(_, some _), by dsimp only [AV.asI, Option.bind_some]; rw [if_pos h.1], h.2⟩
  case slStr x lo hi =>
    refine okEv h fun a h => okEvo h fun l h => okEvo h fun q h => ?_
    cases a <;> first | exact h.elim | skip
    exact okBind (boundsW_spec (K := fun l h _ => K (.str (ByteArray.extract _ l h))) h) fun v h => ⟨(_, _), rfl, h⟩
  case slSl size x lo hi mx =>
    refine okEv h fun a h => okEvo h fun l h => okEvo h fun q h => okEvo h fun m h => ?_
    cases a <;> first | exact h.elim | skip
    · obtain ⟨r, hr, h⟩ := boundsW_spec h
      exact ⟨(_, none), by simp only [hr, Option.bind_some], h⟩
    · obtain ⟨h1, h⟩ := h
      obtain ⟨r, hr, h⟩ := boundsW_spec h
      exact ⟨(_, none), by simp only [h1, if_true, hr, Option.bind_some], h⟩
  case slArr len size x lo hi =>
    refine okEv h fun a h => okEvo h fun l h => okEvo h fun q h => ?_
    cases a <;> first | exact h.elim | skip
    obtain ⟨r, hr, h⟩ := boundsW_spec h
    exact ⟨(_, none), by simp only [hr, Option.bind_some], h⟩
  case faddr off x =>
    refine okEv h fun v h => ?_
    cases v <;> first | exact h.elim | exact ⟨(_, _), rfl, h⟩
  case field off k x =>
    refine okEv h fun v h => ?_
    cases v <;> first | exact h.elim | skip
    obtain ⟨r, hr, h⟩ := optW_spec h
    exact ⟨(_, none), by simp only [hr, Option.bind_some], h⟩
  case iaddrS size x i =>
    refine okEv h fun v h => okEv h fun iv h => ?_
    cases v <;> cases iv <;> first | exact h.elim | skip
    exact ⟨(_, none), by dsimp only [AV.asI, Option.bind_some]; rw [if_pos h.1], h.2⟩
  case iaddrA len size x i =>
    refine okEv h fun v h => okEv h fun iv h => ?_
    cases v <;> cases iv <;> first | exact h.elim | skip
    exact ⟨(_, none), by dsimp only [AV.asI, Option.bind_some]; rw [if_pos h.1], h.2⟩
  case idxStr x i =>
    refine okEv h fun v h => okEv h fun iv h => ?_
    cases v with
    | str s =>
      cases iv with
      | int k j =>
        obtain ⟨⟨h0, h1⟩, h⟩ := h
        have hc := byteAt_get (s := s) (i := j.toNat) (by omega)
        have hb : byteAt s j.toNat = (UInt8.ofNat (byteAt s j.toNat)).toNat := by
          have := byteAt_lt s j.toNat
          rw [UInt8.toNat_ofNat']; omega
        unfold bytesL at hc
        exact ⟨(_, none), by dsimp only [AV.asI, Option.bind_some]; rw [if_pos h0, hc]; rfl, by rw [← hb]; exact h⟩
      | _ => exact h.elim
    | _ => exact h.elim
  case idxArr len size k x i =>
    refine okEv h fun v h => okEv h fun iv h => ?_
    cases v <;> cases iv <;> first | exact h.elim | skip
    obtain ⟨h0, h⟩ := h
    obtain ⟨r, hr, h⟩ := optW_spec h
    exact ⟨(_, none), by dsimp only [AV.asI, Option.bind_some]; rw [if_pos h0, hr]; rfl, h⟩
  case extract x i =>
    refine okEv h fun v h => ?_
    cases v <;> first | exact h.elim | skip
    obtain ⟨r, hr, h⟩ := optW_spec h
    exact ⟨(_, none), by simp only [hr, Option.bind_some], h⟩
  case len q x =>
    refine okEv h fun v h => ?_
    cases q <;> cases v <;> first | exact h.elim | exact ⟨(_, _), rfl, h⟩
  case lenArr n => exact ⟨(_, _), rfl, h⟩
  case lenMap x =>
    refine okEv h fun v h => ?_
    cases v <;> first | exact h.elim | skip
    · exact ⟨(_, _), rfl, h⟩
    · obtain ⟨q, hg, h⟩ := optW_spec h
      cases q <;> first | exact h.elim | skip
      exact ⟨(_, none), by simp only [hg, Option.bind_some], h⟩
  case lookup kk z ok x k =>
    refine okEv h fun v h => okEv h fun kv h => ?_
    obtain ⟨hk, h⟩ := h
    rw [hk]
    simp only [Bool.not_true, Bool.false_eq_true, if_false]
    cases v <;> first | exact h.elim | skip
    · refine ⟨(if ok then .tup [z, .bool false] else z, none), ?_, h⟩
      simp [findK]
    · obtain ⟨q, hg, h⟩ := optW_spec h
      cases q <;> first | exact h.elim | skip
      obtain ⟨r, hf, h⟩ := optW_spec h
      cases r with
      | some i =>
        obtain ⟨e, he, h⟩ := optW_spec h
        refine ⟨(if ok then .tup [e.2.1, .bool true] else e.2.1, none), ?_, h⟩
        simp [hg, hf, he]
      | none =>
        refine ⟨(if ok then .tup [z, .bool false] else z, none), ?_, h⟩
        simp [hg, hf]
  case minmax mx x xs =>
    refine okEv h fun v h => okEvs h fun l h => ?_
    obtain ⟨r, hr, h⟩ := optW_spec h
    exact ⟨(_, none), by simp only [hr, Option.bind_some], h⟩

theorem srcW_spec {σ : Mem} {size : Nat} {x : AV} {K : Nat → List AV → Prop} (h : srcW σ size x K) : ∃ r, srcCells σ size x = some r ∧ K r.1 r.2 := by
  unfold srcW at h
  split at h
  · exact ⟨(0, []), rfl, h⟩
  · obtain ⟨c, hc, h⟩ := optW_spec h
    exact ⟨(_, c), by simp [srcCells, hc], h⟩
  · obtain ⟨rfl, h⟩ := h
    exact ⟨(_, _), by simp only [srcCells, if_true]; rfl, h⟩
  · exact h.elim
theorem eopW_spec {id : Nat} {op : AOp} {t : Tmps} {σ : Mem} {K : AV → Mem → Prop} (h : eopW id op t σ K) : ∃ r, eop id op t σ = some r ∧ K r.1 r.2 := by
  unfold eopW at h
  split at h
  · rename_i n a x
    simp only [eop]
    refine okEv h fun av h => okEv h fun v h => ?_
    cases av with
    | ptr b o =>
      obtain ⟨q, hc, h⟩ := optW_spec h
      cases q <;> first | exact h.elim | skip
      obtain ⟨⟨h1, h2⟩, h⟩ := h
      have := okParts_spec h1
      exact ⟨(_, _), by simp only [hc]; rw [if_pos ⟨this.1, h2, this.2⟩]; rfl, h⟩
    | _ => exact h.elim
  · rename_i size bytes s x
    simp only [eop]
    refine okEv h fun sv h => okEv h fun xv h => okBind (srcW_spec h) fun r ⟨ho, h⟩ => ?_
    obtain ⟨m, c⟩ := r
    dsimp only at ho h ⊢
    cases sv with
    | nils =>
      rcases Nat.eq_zero_or_pos m with hm | hm
      · exact ⟨(_, _), by dsimp only; rw [if_pos hm], h.1 hm⟩
      · obtain ⟨⟨h1, h2⟩, h⟩ := h.2 (by omega)
        exact ⟨(_, _), by dsimp only; rw [if_neg (by omega), if_pos ⟨h1, h2, ho⟩]; rfl, h⟩
    | slice b o n q =>
      rcases Nat.eq_zero_or_pos m with hm | hm
      · exact ⟨(_, _), by dsimp only; rw [if_pos hm], h.1 hm⟩
      · have h := h.2 (by omega)
        dsimp only at h ⊢
        rw [if_neg (by omega)]
        cases q with
        | ex k =>
          dsimp only at h ⊢
          rcases Nat.lt_or_ge k (n + m) with hk | hk
          · obtain ⟨⟨h1, h2⟩, h⟩ := h.2 hk
            obtain ⟨l, hl, hlo, h⟩ := optW_spec h
            exact ⟨(_, _), by rw [if_neg (by omega), if_pos ⟨h1, h2, ho⟩, hl]; simp only [Option.bind_some]; rw [if_pos hlo]; rfl, h⟩
          · have h := h.1 hk
            obtain ⟨q, hl, h⟩ := optW_spec h
            cases q <;> first | exact h.elim | skip
            obtain ⟨h1, h⟩ := h
            exact ⟨(_, _), by rw [if_pos hk]; simp only [hl]; rw [if_pos ⟨h1, ho⟩]; rfl, h⟩
        | op s =>
          obtain ⟨q, hl, h⟩ := optW_spec h
          cases q <;> first | exact h.elim | skip
          obtain ⟨⟨h1, h2, h3⟩, ⟨h4, h5⟩, h6, h⟩ := h
          exact ⟨(_, _), by simp only [hl]; rw [if_pos ⟨h1, h2, h3, h4, h5, ho, h6⟩]; rfl, h⟩
    | _ => exact h.elim
  · rename_i size d s
    simp only [eop]
    refine okEv h fun dv h => okEv h fun sv h => ?_
    cases dv with
    | nils =>
      cases sv with
      | str s => exact ⟨(_, _), by simp only [h.1, if_true, Option.bind_some], h.2⟩
      | nils => exact ⟨(_, _), by simp only [Option.bind_some], h.2⟩
      | slice b o n q => exact ⟨(_, _), by simp only [Option.bind_some], h.2⟩
      | _ => exact h.1.elim
    | slice b o n q =>
      cases sv with
      | str s =>
        obtain ⟨h1, h2, h3⟩ := h
        subst h1
        rcases Nat.eq_zero_or_pos (Nat.min s.size n) with hm | hm
        · exact ⟨(_, _), by simp only [if_true, Option.bind_some, hm], h2 hm⟩
        · have h := h3 (by omega)
          obtain ⟨q, hc, h⟩ := optW_spec h
          cases q <;> first | exact h.elim | skip
          obtain ⟨h4, h⟩ := h
          have hlen : ((bytesOf s).take (Nat.min s.size n)).length ≤ Nat.min s.size n := by rw [List.length_take]; exact Nat.min_le_left _ _
          have hone : ((bytesOf s).take (Nat.min s.size n)).all AV.one = true := by
            rw [List.all_eq_true]
            intro x hx
            have := List.mem_of_mem_take hx
            simp only [bytesOf, List.mem_map] at this
            obtain ⟨b, _, rfl⟩ := this
            rfl
          exact ⟨(_, _), by simp only [if_true, Option.bind_some]; rw [if_neg (by omega)]; simp only [hc]; rw [if_pos ⟨by omega, hone⟩]; rfl, h⟩
      | nils => exact ⟨(_, _), by simp only [Option.bind_some]; rw [if_pos (by exact Nat.zero_min n)], h⟩
      | slice b' o' m q' =>
        obtain ⟨l, hl, h2, h3⟩ := optW_spec h
        rcases Nat.eq_zero_or_pos (Nat.min m n) with hm | hm
        · exact ⟨(_, _), by simp only [Option.bind_some, hl]; rw [if_pos hm], h2 hm⟩
        · have h := h3 (by omega)
          obtain ⟨q, hc, h⟩ := optW_spec h
          cases q <;> first | exact h.elim | skip
          obtain ⟨h4, h⟩ := h
          exact ⟨(_, _), by simp only [Option.bind_some, hl]; rw [if_neg (by omega)]; simp only [hc]; rw [if_pos h4]; rfl, h⟩
      | _ => exact h.elim
    | _ => exact h.elim
  · obtain ⟨v, σ', h1, h2⟩ := h
    exact ⟨(v, σ'), h1, h2⟩
end Go.Vit
