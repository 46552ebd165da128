/- The abstract operations: what the model's operations do over abstract values and memory, as a computable function; and how operations are turned into them. -/
import Derived.Test.YthkehkmnfaaagaaVitA
set_option linter.unusedVariables false
set_option linter.unusedSimpArgs false
namespace Go.Vit

inductive AOpd where
  | tmp (i : Nat)
  | const (v : AV)
  | glob (g : Nat)
inductive EqK where
  | basic
  | bool
  | ptr
  | sl
  | map
  | func
  | flat (offs : List (Nat × Nat))
inductive AConv where
  | toInt (k : IntKind)
  | strBytes
  | bytesStr
  | same

inductive AOp where
  | mov (x : AOpd)
  | pick (c a b : AOpd)
  | alloc (z : List AV)
  | box (x : AOpd)
  | build (z : List AV) (parts : List (Nat × Nat × AOpd))
  | newSlice (n : Nat) (z : List AV) (parts : List (Nat × Nat × AOpd))
  | load (k : Option Nat) (x : AOpd)
  | nilchk (x : AOpd)
  | bin (op : BinOp) (e : EqK) (x y : AOpd)
  | un (op : UnOp) (x : AOpd)
  | conv (c : AConv) (x : AOpd)
  | mkFn (f : Nat) (capt : List AOpd)
  | mkMap
  | make (bytes size : Nat) (z : List AV) (n c : AOpd)
  | slStr (x : AOpd) (lo hi : Option AOpd)
  | slSl (size : Nat) (x : AOpd) (lo hi mx : Option AOpd)
  | slArr (len size : Nat) (x : AOpd) (lo hi : Option AOpd)
  | faddr (off : Nat) (x : AOpd)
  | field (off : Nat) (k : Option Nat) (x : AOpd)
  | iaddrS (size : Nat) (x i : AOpd)
  | iaddrA (len size : Nat) (x i : AOpd)
  | idxStr (x i : AOpd)
  | idxArr (len size : Nat) (k : Option Nat) (x i : AOpd)
  | extract (x : AOpd) (i : Nat)
  | len (s : Bool) (x : AOpd)
  | lenArr (n : Nat)
  | lenMap (x : AOpd)
  | lookup (kk : Bool) (z : AV) (ok : Bool) (x k : AOpd)
  | minmax (mx : Bool) (x : AOpd) (xs : List AOpd)
  | store (n : Nat) (a x : AOpd)
  | append (size bytes : Nat) (s x : AOpd)
  | copy (size : Nat) (d s : AOpd)
  | mapUpd (kk : Bool) (m k x : AOpd)
  | mapEnt (kk : Bool) (z : AV) (m k : AOpd)
  | entSt (m s x : AOpd)
  | del (kk : Bool) (m k : AOpd)
  | call (f : Nat) (args : List AOpd)
  | callv (x : AOpd) (args : List AOpd)
  | fail

structure AOper where
  d : Option Nat
  g : Option (Nat × Bool)
  op : AOp

abbrev Tmps := Tr AV
def Tmps.set (t : Tmps) (d : Option Nat) (v : AV) : Tmps :=
  match d with
  | some i => Tr.put t i (some v)
  | none => t

def AOpd.ev (t : Tmps) : AOpd → Option AV
  | .tmp i => Tr.get t i
  | .const v => some v
  | .glob g => some (.ptr g 0)
def evs (t : Tmps) : List AOpd → Option (List AV)
  | [] => some []
  | x :: xs => (x.ev t).bind fun v => (evs t xs).bind fun vs => some (v :: vs)

/-! ### Values -/
def AV.asI : AV → Option Int
  | .int _ n => some n
  | _ => none
/-- Two values of one cell, by a tag of their type: 0 bool, 1 integer, 2 string. -/
def eqScalar : Nat → AV → AV → Option Bool
  | 0, .bool a, .bool b => some (a == b)
  | 1, .int k a, .int k' b => if k = k' then some (a == b) else none
  | 2, .str a, .str b => some (a.data.toList == b.data.toList)
  | _, _, _ => none
def eqFlat (l l' : List AV) : List (Nat × Nat) → Option Bool
  | [] => some true
  | o :: os => (l[o.1]?).bind fun a => (l'[o.1]?).bind fun b => (eqScalar o.2 a b).bind fun r => if r then eqFlat l l' os else some false
def eqVal : EqK → AV → AV → Option Bool
  | .flat offs, .agg l, .agg l' => eqFlat l l' offs
  | .bool, .bool a, .bool b => some (a == b)
  | .ptr, .nilp, .nilp => some true
  | .ptr, .nilp, .ptr _ _ => some false
  | .ptr, .ptr _ _, .nilp => some false
  | .sl, .nils, .nils => some true
  | .sl, .nils, .slice .. => some false
  | .sl, .slice .., .nils => some false
  | .map, .nilm, .nilm => some true
  | .map, .nilm, .map _ => some false
  | .map, .map _, .nilm => some false
  | .func, .nilf, .nilf => some true
  | .func, .nilf, .func _ _ => some false
  | .func, .func _ _, .nilf => some false
  | _, _, _ => none
def bitsOp (op : BinOp) (k : IntKind) (x y : Int) : Int :=
  match op with
  | .and => k.wrap ((BitVec.ofInt k.bits x &&& BitVec.ofInt k.bits y).toNat)
  | .or => k.wrap ((BitVec.ofInt k.bits x ||| BitVec.ofInt k.bits y).toNat)
  | .xor => k.wrap ((BitVec.ofInt k.bits x ^^^ BitVec.ofInt k.bits y).toNat)
  | _ => k.wrap ((BitVec.ofInt k.bits x &&& ~~~ BitVec.ofInt k.bits y).toNat)
def binInt (op : BinOp) (k : IntKind) (a b : Int) : Option AV :=
  match op with
  | .add => some (.int k (k.wrap (a + b)))
  | .sub => some (.int k (k.wrap (a - b)))
  | .mul => some (.int k (k.wrap (a * b)))
  | .quo => if b = 0 then none else some (.int k (k.wrap (a.tdiv b)))
  | .rem => if b = 0 then none else some (.int k (a.tmod b))
  | .and => some (.int k (bitsOp .and k a b))
  | .or => some (.int k (bitsOp .or k a b))
  | .xor => some (.int k (bitsOp .xor k a b))
  | .andNot => some (.int k (bitsOp .andNot k a b))
  | .eql => some (.bool (a == b))
  | .neq => some (.bool (a != b))
  | .lss => some (.bool (decide (a < b)))
  | .leq => some (.bool (decide (a ≤ b)))
  | .gtr => some (.bool (decide (b < a)))
  | .geq => some (.bool (decide (b ≤ a)))
  | _ => none
def shInt (op : BinOp) (k : IntKind) (a b : Int) : Option AV :=
  if b < 0 then none else
  match op with
  | .shl => some (.int k (k.wrap (a * 2 ^ (min b.toNat k.bits))))
  | .shr => some (.int k (a.fdiv (2 ^ (min b.toNat k.bits))))
  | _ => none
def binStr (op : BinOp) (a b : ByteArray) : Option AV :=
  match op with
  | .add => if ((a.size + b.size : Nat) : Int) ≤ 9223372036854775807 then some (.str (a ++ b)) else none
  | .eql => some (.bool (a.data.toList == b.data.toList))
  | .neq => some (.bool (!(a.data.toList == b.data.toList)))
  | .lss => some (.bool (Op.bytesLess a.data.toList b.data.toList))
  | .leq => some (.bool (Op.bytesLess a.data.toList b.data.toList || a.data.toList == b.data.toList))
  | .gtr => some (.bool (!(Op.bytesLess a.data.toList b.data.toList || a.data.toList == b.data.toList)))
  | .geq => some (.bool (!Op.bytesLess a.data.toList b.data.toList))
  | _ => none
def binV (op : BinOp) (e : EqK) (x y : AV) : Option AV :=
  match x, y with
  | .int k a, .int k' b =>
    match op with
    | .shl => shInt .shl k a b
    | .shr => shInt .shr k a b
    | op => if k = k' then binInt op k a b else none
  | .str a, .str b => binStr op a b
  | x, y =>
    match op with
    | .eql => (eqVal e x y).map .bool
    | .neq => (eqVal e x y).map fun r => .bool (!r)
    | _ => none
def unV (op : UnOp) : AV → Option AV
  | .int k n => match op with
    | .neg => some (.int k (k.wrap (0 - n)))
    | .xor => some (.int k (bitsOp .xor k (if k.signed then -1 else k.max) n))
    | _ => none
  | .bool b => match op with
    | .not => some (.bool (!b))
    | _ => none
  | _ => none
def minmaxV (mx : Bool) : AV → AV → Option AV
  | .int k a, .int k' b => if k = k' then some (.int k (if mx then (if b > a then b else a) else (if b < a then b else a))) else none
  | _, _ => none
def minmaxL (mx : Bool) : AV → List AV → Option AV
  | a, [] => some a
  | a, b :: l => (minmaxV mx a b).bind fun c => minmaxL mx c l

def bytesOf (s : ByteArray) : List AV := s.data.toList.map fun b => .int .u8 b.toNat
def toBytes : List AV → Option (List UInt8)
  | [] => some []
  | .int .u8 n :: l => (toBytes l).map fun r => UInt8.ofNat n.toNat :: r
  | _ => none

def setAt (l : List AV) (off : Nat) : List AV → List AV
  | [] => l
  | c :: cs => setAt (l.set off c) (off + 1) cs
def fillA (t : Tmps) (l : List AV) : List (Nat × Nat × AOpd) → Option (List AV)
  | [] => some l
  | (off, size, x) :: rest => (x.ev t).bind fun v =>
    if v.cells.length = size ∧ off + size ≤ l.length ∧ v.cells.all AV.one then fillA t (setAt l off v.cells) rest else none
def partA (l : List AV) (off : Nat) : Option Nat → Option AV
  | none => l[off]?
  | some n => if off + n ≤ l.length then some (.agg ((l.drop off).take n)) else none
def Blk.cellsR : Blk → Option (List AV)
  | .rw c => some c
  | .ro c => some c
  | _ => none
/-- n cells from a place on. -/
def Mem.cells (σ : Mem) (b o n : Nat) : Option (List AV) :=
  (σ.get b).bind fun k => k.cellsR.bind fun c => if o + n ≤ c.length then some ((c.drop o).take n) else none
def bnd (v : AV) (c : Nat) : Option Nat := v.asI.bind fun i => if 0 ≤ i ∧ i ≤ c then some i.toNat else none
def sliceBoundsA (len cap : Nat) (lo hi mx : Option AV) : Option (Nat × Nat × Nat) :=
  (match mx with
    | some v => bnd v cap
    | none => some cap).bind fun m =>
  (match hi with
    | some v => bnd v m
    | none => if mx.isSome then none else some len).bind fun h =>
  (match lo with
    | some v => bnd v h
    | none => some 0).bind fun l => some (l, h, m)
def Cap.least (n : Nat) : Cap → Nat
  | .ex k => k
  | .op _ => n
def Cap.fits (size : Nat) : Cap → Bool
  | .ex _ => true
  | .op s => s == size || s == 0
def Cap.cut (exact : Bool) (l m : Nat) : Cap → Cap
  | .ex k => .ex (if exact then m - l else k - l)
  | .op s => if exact then .ex (m - l) else .op s
def evo (t : Tmps) : Option AOpd → Option (Option AV)
  | none => some none
  | some x => (x.ev t).map some
def keyEq : AV → AV → Option Bool
  | .int k a, .int k' b => if k = k' then some (a == b) else none
  | .str a, .str b => some (a.data.toList == b.data.toList)
  | _, _ => none
/-- Which entry has a key. -/
def findK (k : AV) : List (AV × AV × Nat) → Option (Option Nat)
  | [] => some none
  | e :: es => (keyEq k e.1).bind fun r => if r then some (some 0) else (findK k es).map fun o => o.map (· + 1)
def isKey : Bool → AV → Bool
  | false, .int .. => true
  | true, .str _ => true
  | _, _ => false

/-- What an operation that changes nothing that was there comes to: its value, and the block that it makes (whose number is 'id'). -/
def nop (id : Nat) (op : AOp) (t : Tmps) (σ : Mem) : Option (AV × Option Blk) :=
  match op with
  | .mov x => (x.ev t).bind fun v => some (v, none)
  | .pick c a b => (c.ev t).bind fun cv => match cv with
    | .bool r => ((if r then a else b).ev t).bind fun v => some (v, none)
    | _ => none
  | .alloc z => some (.ptr id 0, some (.rw z))
  | .box x => (x.ev t).bind fun v => if v.cells.all AV.one then some (.ptr id 0, some (.rw v.cells)) else none
  | .build z ps => (fillA t z ps).bind fun l => some (.agg l, none)
  | .newSlice n z ps => (fillA t z ps).bind fun l => some (.slice id 0 n (.ex n), some (.rw l))
  | .load k x => (x.ev t).bind fun v => match v with
    | .ptr b o => match k with
      | none => (σ.cells b o 1).bind fun c => match c with
        | [a] => some (a, none)
        | _ => none
      | some n => (σ.cells b o n).bind fun c => some (.agg c, none)
    | _ => none
  | .nilchk x => (x.ev t).bind fun v => match v with
    | .ptr .. => some (v, none)
    | .func .. => some (v, none)
    | _ => none
  | .bin op e x y => (x.ev t).bind fun a => (y.ev t).bind fun b => (binV op e a b).bind fun v => some (v, none)
  | .un op x => (x.ev t).bind fun a => (unV op a).bind fun v => some (v, none)
  | .conv c x => (x.ev t).bind fun a => match c with
    | .toInt k => match a with
      | .int _ n => some (.int k (k.wrap n), none)
      | _ => none
    | .strBytes => match a with
      | .str s => if (s.size : Int) ≤ 9223372036854775806 then some (.slice id 0 s.size (.op 1), some (.rw (bytesOf s))) else none
      | _ => none
    | .bytesStr => match a with
      | .nils => some (.str ByteArray.empty, none)
      | .slice b o n _ => (σ.cells b o n).bind fun l => (toBytes l).bind fun r => some (.str ⟨r.toArray⟩, none)
      | _ => none
    | .same => match a with
      | .str s => some (.str s, none)
      | _ => none
  | .mkFn f xs => (evs t xs).bind fun l => some (.func f l, none)
  | .mkMap => some (.map id, some (.map [] 0))
  | .make bytes size z n c => (n.ev t).bind fun nv => (c.ev t).bind fun cv => nv.asI.bind fun i => cv.asI.bind fun k =>
      if 0 ≤ i ∧ i ≤ k ∧ k ≤ 9223372036854775807 ∧ (bytes : Int) * k ≤ 2 ^ 47 ∧ z.length = size then
        some (.slice id 0 i.toNat (.ex k.toNat), some (.rw (List.replicate k.toNat z).flatten)) else none
  | .slStr x lo hi => (x.ev t).bind fun a => (evo t lo).bind fun l => (evo t hi).bind fun h => match a with
    | .str s => (sliceBoundsA s.size s.size l h none).bind fun r => some (.str (s.extract r.1 r.2.1), none)
    | _ => none
  | .slSl size x lo hi mx => (x.ev t).bind fun a => (evo t lo).bind fun l => (evo t hi).bind fun h => (evo t mx).bind fun m => match a with
    | .slice b o n c => if c.fits size then (sliceBoundsA n (c.least n) l h m).bind fun r =>
        some (.slice b (o + r.1 * size) (r.2.1 - r.1) (c.cut m.isSome r.1 r.2.2), none) else none
    | .nils => (sliceBoundsA 0 0 l h m).bind fun _ => some (.nils, none)
    | _ => none
  | .slArr len size x lo hi => (x.ev t).bind fun a => (evo t lo).bind fun l => (evo t hi).bind fun h => match a with
    | .ptr b o => (sliceBoundsA len len l h none).bind fun r => some (.slice b (o + r.1 * size) (r.2.1 - r.1) (.ex (len - r.1)), none)
    | _ => none
  | .faddr off x => (x.ev t).bind fun v => match v with
    | .ptr b o => some (.ptr b (o + off), none)
    | _ => none
  | .field off k x => (x.ev t).bind fun v => match v with
    | .agg l => (partA l off k).bind fun r => some (r, none)
    | _ => none
  | .iaddrS size x i => (x.ev t).bind fun v => (i.ev t).bind fun iv => iv.asI.bind fun j => match v with
    | .slice b o n _ => if 0 ≤ j ∧ j < n then some (.ptr b (o + j.toNat * size), none) else none
    | _ => none
  | .iaddrA len size x i => (x.ev t).bind fun v => (i.ev t).bind fun iv => iv.asI.bind fun j => match v with
    | .ptr b o => if 0 ≤ j ∧ j < len then some (.ptr b (o + j.toNat * size), none) else none
    | _ => none
  | .idxStr x i => (x.ev t).bind fun v => (i.ev t).bind fun iv => iv.asI.bind fun j => match v with
    | .str s => if 0 ≤ j then (s.data.toList[j.toNat]?).bind fun c => some (.int .u8 c.toNat, none) else none
    | _ => none
  | .idxArr len size k x i => (x.ev t).bind fun v => (i.ev t).bind fun iv => iv.asI.bind fun j => match v with
    | .agg l => if 0 ≤ j ∧ j < len then (partA l (j.toNat * size) k).bind fun r => some (r, none) else none
    | _ => none
  | .extract x i => (x.ev t).bind fun v => match v with
    | .tup l => (l[i]?).bind fun r => some (r, none)
    | _ => none
  | .len q x => (x.ev t).bind fun v => match q, v with
    | true, .str s => some (.int .i64 s.size, none)
    | false, .nils => some (.int .i64 0, none)
    | false, .slice _ _ n _ => some (.int .i64 n, none)
    | _, _ => none
  | .lenArr n => some (.int .i64 n, none)
  | .lenMap x => (x.ev t).bind fun v => match v with
    | .nilm => some (.int .i64 0, none)
    | .map b => (σ.get b).bind fun k => match k with
      | .map es _ => some (.int .i64 es.length, none)
      | _ => none
    | _ => none
  | .lookup kk z ok x k => (x.ev t).bind fun v => (k.ev t).bind fun kv => if !isKey kk kv then none else
      (match v with
        | .nilm => some []
        | .map b => (σ.get b).bind fun q => match q with
          | .map es _ => some es
          | _ => none
        | _ => none).bind fun es => (findK kv es).bind fun r =>
      match r with
      | some i => (es[i]?).bind fun e => some (if ok then .tup [e.2.1, .bool true] else e.2.1, none)
      | none => some (if ok then .tup [z, .bool false] else z, none)
  | .minmax mx x xs => (x.ev t).bind fun v => (evs t xs).bind fun l => (minmaxL mx v l).bind fun r => some (r, none)
  | _ => none

def Mem.add (σ : Mem) (id : Nat) : Option Blk → Mem
  | none => σ
  | some k => σ.put id (some k)

/-- The cells that an append takes from its second operand. -/
def srcCells (σ : Mem) (size : Nat) : AV → Option (Nat × List AV)
  | .nils => some (0, [])
  | .slice b o n _ => (σ.cells b o (n * size)).bind fun c => some (n, c)
  | .str s => if size = 1 then some (s.size, bytesOf s) else none
  | _ => none

/-- What an operation that changes memory comes to. -/
def eop (id : Nat) (op : AOp) (t : Tmps) (σ : Mem) : Option (AV × Mem) :=
  match op with
  | .store n a x => (a.ev t).bind fun av => (x.ev t).bind fun v => match av with
    | .ptr b o => match σ.get b with
      | some (.rw c) => if v.cells.length = n ∧ o + n ≤ c.length ∧ v.cells.all AV.one then some (.tup [], σ.put b (some (.rw (setAt c o v.cells)))) else none
      | _ => none
    | _ => none
  | .append size bytes s x => (s.ev t).bind fun sv => (x.ev t).bind fun xv => (srcCells σ size xv).bind fun nc =>
    match sv with
    | .nils => if nc.1 = 0 then some (.nils, σ) else
        if nc.1 * bytes ≤ 140737488355328 ∧ nc.1 ≤ 9223372036854775806 ∧ nc.2.all AV.one then some (.slice id 0 nc.1 (.op size), σ.put id (some (.rw nc.2))) else none
    | .slice b o n c => if nc.1 = 0 then some (.slice b o n c, σ) else
        match c with
        | .ex k =>
          if n + nc.1 ≤ k then
            match σ.get b with
            | some (.rw l) => if o + (n + nc.1) * size ≤ l.length ∧ nc.2.all AV.one then some (.slice b o (n + nc.1) (.ex k), σ.put b (some (.rw (setAt l (o + n * size) nc.2)))) else none
            | _ => none
          else if (n + nc.1) * bytes ≤ 140737488355328 ∧ n + nc.1 ≤ 9223372036854775806 ∧ nc.2.all AV.one then
            (σ.cells b o (n * size)).bind fun l => if l.all AV.one then some (.slice id 0 (n + nc.1) (.op size), σ.put id (some (.rw (l ++ nc.2)))) else none
          else none
        | .op s =>
          match σ.get b with
          | some (.rw l) => if s = size ∧ o = 0 ∧ l.length = n * size ∧ (n + nc.1) * bytes ≤ 140737488355328 ∧ n + nc.1 ≤ 9223372036854775806 ∧ nc.2.all AV.one ∧ l.all AV.one then
              some (.slice id 0 (n + nc.1) (.op size), (σ.put b none).put id (some (.rw (l ++ nc.2)))) else none
          | _ => none
    | _ => none
  | .copy size d s => (d.ev t).bind fun dv => (s.ev t).bind fun sv =>
    (match sv with
      | .nils => some 0
      | .slice _ _ n _ => some n
      | .str s => if size = 1 then some s.size else none
      | _ => none).bind fun sn =>
    match dv with
    | .nils => some (.int .i64 0, σ)
    | .slice b o n _ =>
      (match sv with
        | .nils => some []
        | .slice b' o' _ _ => σ.cells b' o' (Nat.min sn n * size)
        | .str s => some ((bytesOf s).take (Nat.min sn n))
        | _ => none).bind fun l =>
      if Nat.min sn n = 0 then some (.int .i64 0, σ) else
      match σ.get b with
      | some (.rw c) => if o + l.length ≤ c.length ∧ l.all AV.one then some (.int .i64 (Nat.min sn n : Nat), σ.put b (some (.rw (setAt c o l)))) else none
      | _ => none
    | _ => none
  | .mapUpd kk m k x => (m.ev t).bind fun mv => (k.ev t).bind fun kv => (x.ev t).bind fun v => if !isKey kk kv then none else match mv with
    | .map b => match σ.get b with
      | some (.map es clock) => (findK kv es).bind fun r => match r with
        | some i => some (.tup [], σ.put b (some (.map (es.modify i fun e => (kv, v, e.2.2)) clock)))
        | none => some (.tup [], σ.put b (some (.map (es ++ [(kv, v, clock)]) (clock + 1))))
      | _ => none
    | _ => none
  | .mapEnt kk z m k => (m.ev t).bind fun mv => (k.ev t).bind fun kv => if !isKey kk kv then none else match mv with
    | .map b => match σ.get b with
      | some (.map es clock) => (findK kv es).bind fun r => match r with
        | some i => (es[i]?).bind fun e => some (.tup [e.2.1, .int .i64 e.2.2], σ.put b (some (.map (es.modify i fun e => (kv, e.2)) clock)))
        | none => some (.tup [z, .int .i64 clock], σ.put b (some (.map (es ++ [(kv, z, clock)]) (clock + 1))))
      | _ => none
    | _ => none
  | .entSt m s x => (m.ev t).bind fun mv => (s.ev t).bind fun sv => (x.ev t).bind fun v => sv.asI.bind fun j => match mv with
    | .map b => match σ.get b with
      | some (.map es clock) => (es.findIdx? (fun e => (e.2.2 : Int) == j)).bind fun i =>
          some (.tup [], σ.put b (some (.map (es.modify i fun e => (e.1, v, e.2.2)) clock)))
      | _ => none
    | _ => none
  | .del kk m k => (m.ev t).bind fun mv => (k.ev t).bind fun kv => if !isKey kk kv then none else match mv with
    | .nilm => some (.tup [], σ)
    | .map b => match σ.get b with
      | some (.map es clock) => (findK kv es).bind fun r => match r with
        | some i => some (.tup [], σ.put b (some (.map (es.eraseIdx i) clock)))
        | none => some (.tup [], σ)
      | _ => none
    | _ => none
  | _ => none

def AOp.eff : AOp → Bool
  | .store .. | .append .. | .copy .. | .mapUpd .. | .mapEnt .. | .entSt .. | .del .. | .call .. | .callv .. | .fail => true
  | _ => false
def AOp.reads : AOp → Bool
  | .load .. | .conv .bytesStr _ | .lenMap _ | .lookup .. => true
  | _ => false
def AOpd.ts : AOpd → List Nat
  | .tmp i => [i]
  | _ => []
def AOp.opds : AOp → List AOpd
  | .mov x | .box x | .load _ x | .nilchk x | .un _ x | .conv _ x | .faddr _ x | .field _ _ x | .extract x _ | .len _ x | .lenMap x => [x]
  | .pick c a b => [c, a, b]
  | .alloc _ | .mkMap | .lenArr _ | .fail => []
  | .build _ ps | .newSlice _ _ ps => ps.map fun p => p.2.2
  | .bin _ _ x y | .make _ _ _ x y | .iaddrS _ x y | .iaddrA _ _ x y | .idxStr x y | .idxArr _ _ _ x y | .lookup _ _ _ x y | .store _ x y | .append _ _ x y | .copy _ x y
  | .mapEnt _ _ x y | .del _ x y => [x, y]
  | .mkFn _ xs => xs
  | .slStr x lo hi | .slArr _ _ x lo hi => x :: (lo.toList ++ hi.toList)
  | .slSl _ x lo hi mx => x :: (lo.toList ++ hi.toList ++ mx.toList)
  | .minmax _ x xs => x :: xs
  | .mapUpd _ m k x | .entSt m k x => [m, k, x]
  | .call _ xs => xs
  | .callv x xs => x :: xs
def AOper.ts (o : AOper) : List Nat := o.op.opds.flatMap AOpd.ts ++ (match o.g with | some g => [g.1] | none => [])
end Go.Vit
