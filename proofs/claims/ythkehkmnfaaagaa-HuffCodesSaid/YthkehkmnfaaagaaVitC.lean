/- From the model's operations to the abstract ones: a computable function. -/
import Derived.Test.YthkehkmnfaaagaaVitB
set_option linter.unusedVariables false
set_option linter.unusedSimpArgs false
namespace Go.Vit

def ofV1 : Value → Option AV
  | .bool b => some (.bool b)
  | .int k n => some (.int k n)
  | .string s => some (.str s)
  | .pointer none => some .nilp
  | .slice none 0 0 => some .nils
  | .map none => some .nilm
  | .nilFunc => some .nilf
  | .nilIface => some .nili
  | _ => none
def ofVs : List Value → Option (List AV)
  | [] => some []
  | v :: vs => (ofV1 v).bind fun a => (ofVs vs).bind fun l => some (a :: l)
def ofV : Value → Option AV
  | .agg cs => (ofVs cs.toList).map .agg
  | v => ofV1 v
def opd : Operand → Option AOpd
  | .tmp t => some (.tmp t)
  | .const v => (ofV v).map .const
  | .global _ => none
  | .func f => some (.const (.func f []))
def opds : List Operand → Option (List AOpd)
  | [] => some []
  | x :: xs => (opd x).bind fun a => (opds xs).bind fun l => some (a :: l)
def opdo : Option Operand → Option (Option AOpd)
  | none => some none
  | some x => (opd x).map some

theorem ofV1_rel {v : Value} {a : AV} (h : ofV1 v = some a) (ρ : Ren) : VRel ρ a v := by
  unfold ofV1 at h
  split at h <;> first | (cases h; constructor) | cases h
theorem ofV1_one {v : Value} {a : AV} (h : ofV1 v = some a) : a.one = true ∧ v.oneCell' = true ∧ v.cells = #[v] := by
  unfold ofV1 at h
  split at h <;> first | (cases h; exact ⟨rfl, rfl, rfl⟩) | cases h
theorem ofVs_rel : ∀ {vs : List Value} {l : List AV}, ofVs vs = some l → ∀ ρ : Ren, LRel ρ l vs.toArray
  | [], l, h, ρ => by simp [ofVs] at h; subst h; exact LRel.nil ρ
  | v :: vs, l, h, ρ => by
    simp only [ofVs, Option.bind_eq_some_iff] at h
    obtain ⟨a, ha, l', hl, e⟩ := h
    cases e
    have ih := ofVs_rel hl ρ
    refine ⟨by have := ih.1; simp at this ⊢; exact this, fun i x y hx hy => ?_⟩
    cases i with
    | zero => simp at hx hy; subst hx; subst hy; exact ofV1_rel ha ρ
    | succ i => exact ih.2 i x y (by simpa using hx) (by simpa using hy)
theorem ofVs_one : ∀ {vs : List Value} {l : List AV}, ofVs vs = some l → l.all AV.one = true ∧ ∀ v ∈ vs, v.oneCell' = true
  | [], l, h => by simp [ofVs] at h; subst h; exact ⟨rfl, fun v hv => by simp at hv⟩
  | v :: vs, l, h => by
    simp only [ofVs, Option.bind_eq_some_iff] at h
    obtain ⟨a, ha, l', hl, e⟩ := h
    cases e
    have ih := ofVs_one hl
    exact ⟨by simp [List.all_cons, (ofV1_one ha).1, ih.1], fun u hu => by
      rcases List.mem_cons.1 hu with rfl | hu
      · exact (ofV1_one ha).2.1
      · exact ih.2 u hu⟩
theorem ofV_rel {v : Value} {a : AV} (h : ofV v = some a) (ρ : Ren) : VRel ρ a v := by
  unfold ofV at h
  split at h
  · simp only [Option.map_eq_some_iff] at h
    obtain ⟨l, hl, rfl⟩ := h
    have := ofVs_rel hl ρ
    exact .agg (by simpa using this.1) (by simpa using this.2)
  · exact ofV1_rel h ρ

/-- The cells of a type's zero value. -/
def zeroOf (P : Program) (t : TypeId) : Option (List AV) := (P.info? t).bind fun i => i.zero.bind fun z => ofVs z.cells.toList
/-- none: a value of one cell; some n: n cells in a row. -/
def shapeOf (P : Program) (t : TypeId) : Option (Option Nat) :=
  (P.underlying t).bind fun d => (P.info? t).bind fun i => match d with
    | .struct _ | .array _ _ => some (some i.size)
    | _ => some none
def places (P : Program) : List Field → Option (List (Nat × Nat))
  | [] => some []
  | f :: fs => (P.info? f.type).bind fun i => (places P fs).bind fun l => some ((f.offset, i.size) :: l)
def partsF (pl : List (Nat × Nat)) : List (Nat × Operand) → Option (List (Nat × Nat × AOpd))
  | [] => some []
  | (i, x) :: r => (pl[i]?).bind fun p => (opd x).bind fun a => (partsF pl r).bind fun l => some ((p.1, p.2, a) :: l)
def partsA (size : Nat) : List (Nat × Operand) → Option (List (Nat × Nat × AOpd))
  | [] => some []
  | (i, x) :: r => (opd x).bind fun a => (partsA size r).bind fun l => some ((i * size, size, a) :: l)
/-- The places of a struct's fields, where each is a bool, an integer or a string, none blank. -/
def flatOffs (P : Program) : List Field → Option (List (Nat × Nat))
  | [] => some []
  | f :: fs => (P.underlying f.type).bind fun d => (flatOffs P fs).bind fun l =>
    if f.name = "_" then none else match d with
    | .bool => some ((f.offset, 0) :: l)
    | .int _ => some ((f.offset, 1) :: l)
    | .string => some ((f.offset, 2) :: l)
    | _ => none
def eqKind (P : Program) (t : TypeId) : Option EqK :=
  (P.underlying t).bind fun d => match d with
    | .struct fs => if P.stoodInHeld t || P.eqGuardType P.depth t then none else (flatOffs P fs.toList).map .flat
    | .int _ | .string => some .basic
    | .bool => some .bool
    | .pointer _ => some .ptr
    | .slice _ => some .sl
    | .map _ _ => some .map
    | .func _ _ _ => some .func
    | _ => none
def keyT (P : Program) (k : TypeId) : Option Bool :=
  match P.underlying k with
  | some (.int _) => some false
  | some .string => some true
  | _ => none

def compCall (P : Program) (c : Call) : Option AOp :=
  match c.callee with
  | .value (.func f) =>
    (P.funcs[f]?).bind fun fn => if fn.body.isSome && !(fn.name == "runtime.NumGoroutine") then (opds c.args.toList).map (.call f) else none
  | .value x => (opd x).bind fun a => (opds c.args.toList).map (.callv a)
  | .invoke _ _ => none
  | .builtin b =>
    match b, c.args.toList, c.argTypes.toList with
    | .len, [x], t :: _ => (P.underlying t).bind fun d => (opd x).bind fun a => match d with
      | .string => some (.len true a)
      | .slice _ => some (.len false a)
      | .array n _ => some (.lenArr n)
      | .map _ _ => some (.lenMap a)
      | _ => none
    | .append, [s, x], t :: u :: _ => (P.underlying t).bind fun d => (P.underlying u).bind fun du => (opd s).bind fun a => (opd x).bind fun b => match d with
      | .slice e => (P.info? e).bind fun i => match du with
        | .int _ => none
        | _ => if i.size = 0 ∨ i.bytes = 0 ∨ (i.zero.map fun z => z.cells.size) ≠ some i.size then none else some (.append i.size i.bytes a b)
      | _ => none
    | .copy, [d, s], t :: _ => (P.underlying t).bind fun dd => (opd d).bind fun a => (opd s).bind fun b => match dd with
      | .slice e => (P.info? e).bind fun i => some (.copy i.size a b)
      | _ => none
    | .min, x :: xs, _ => (opd x).bind fun a => (opds xs).bind fun l => some (.minmax false a l)
    | .max, x :: xs, _ => (opd x).bind fun a => (opds xs).bind fun l => some (.minmax true a l)
    | .delete, [m, k], t :: _ => (P.underlying t).bind fun d => (opd m).bind fun a => (opd k).bind fun b => match d with
      | .map kt _ => (keyT P kt).map fun kk => .del kk a b
      | _ => none
    | _, _, _ => none

def compOp (P : Program) : Op → Option AOp
  | .move x | .assign x => (opd x).map .mov
  | .pick c a b => (opd c).bind fun c => (opd a).bind fun a => (opd b).bind fun b => some (.pick c a b)
  | .alloc e => (zeroOf P e).map .alloc
  | .box e x => (opd x).map .box
  | .build t ps => (P.underlying t).bind fun d => (zeroOf P t).bind fun z => match d with
    | .struct fs => (places P fs.toList).bind fun pl => (partsF pl ps.toList).map fun l => .build z l
    | .array _ e => (P.info? e).bind fun i => (partsA i.size ps.toList).map fun l => .build z l
    | _ => none
  | .buildSlice t n ps => (P.underlying t).bind fun d => match d with
    | .slice e => (P.info? e).bind fun i => (zeroOf P e).bind fun z => (partsA i.size ps.toList).bind fun l =>
      if n * i.size ≤ 16777216 ∧ z.length = i.size then some (.newSlice n (List.replicate n z).flatten l) else none
    | _ => none
  | .load t a => (shapeOf P t).bind fun k => (opd a).map (.load k)
  | .store t a x => (P.info? t).bind fun i => (opd a).bind fun a => (opd x).map (.store i.size a)
  | .nilCheck x => (opd x).map .nilchk
  | .binOp op t x y _ => (eqKind P t).bind fun e => (opd x).bind fun a => (opd y).map (.bin op e a)
  | .unOp op _ x => (opd x).map (.un op)
  | .convert src dst x => (P.underlying src).bind fun s => (P.underlying dst).bind fun d => (opd x).bind fun a => match s, d with
    | .int _, .int k => some (.conv (.toInt k) a)
    | .string, .string => some (.conv .same a)
    | .string, .slice e => match P.underlying e with
      | some (.int .u8) => some (.conv .strBytes a)
      | _ => none
    | .slice e, .string => match P.underlying e with
      | some (.int .u8) => some (.conv .bytesStr a)
      | _ => none
    | _, _ => none
  | .makeFunc (.func f) first captured => if first.size = 0 then (opds captured.toList).map (.mkFn f) else none
  | .makeMap _ none => some .mkMap
  | .makeSlice t n c => (P.underlying t).bind fun d => match d with
    | .slice e => (P.info? e).bind fun i => (zeroOf P e).bind fun z => (opd n).bind fun n => (opd c).map fun c => .make i.bytes i.size z n c
    | _ => none
  | .slice t x lo hi mx => (P.underlying t).bind fun d => (opd x).bind fun a => (opdo lo).bind fun l => (opdo hi).bind fun h => (opdo mx).bind fun m => match d with
    | .string => if m.isSome then none else some (.slStr a l h)
    | .slice e => (P.info? e).bind fun i => some (.slSl i.size a l h m)
    | .array n e => (P.info? e).bind fun i => if m.isSome then none else some (.slArr n i.size a l h)
    | .pointer ar => (P.underlying ar).bind fun d => match d with
      | .array n e => (P.info? e).bind fun i => if m.isSome then none else some (.slArr n i.size a l h)
      | _ => none
    | _ => none
  | .fieldAddr s x f => (P.underlying s).bind fun d => match d with
    | .struct fs => (fs[f]?).bind fun f => (P.info? f.type).bind fun i => if i.size = 0 then none else (opd x).map (.faddr f.offset)
    | _ => none
  | .field t x f => (P.underlying t).bind fun d => match d with
    | .struct fs => (fs[f]?).bind fun f => (shapeOf P f.type).bind fun k => (opd x).map (.field f.offset k)
    | _ => none
  | .indexAddr t x ix => (P.underlying t).bind fun d => (opd x).bind fun a => (opd ix).bind fun i => match d with
    | .slice e => (P.info? e).bind fun q => some (.iaddrS q.size a i)
    | .array n e => (P.info? e).bind fun q => some (.iaddrA n q.size a i)
    | _ => none
  | .index t x ix => (P.underlying t).bind fun d => (opd x).bind fun a => (opd ix).bind fun i => match d with
    | .string => some (.idxStr a i)
    | .array n e => (P.info? e).bind fun q => (shapeOf P e).bind fun k => some (.idxArr n q.size k a i)
    | _ => none
  | .lookup t x k ok => (P.underlying t).bind fun d => (opd x).bind fun a => (opd k).bind fun b => match d with
    | .map kt e => (keyT P kt).bind fun kk => (P.info? e).bind fun i => i.zero.bind fun z => (ofV z).map fun z => .lookup kk z ok a b
    | _ => none
  | .mapUpdate t m k x | .insert t m k x => (P.underlying t).bind fun d => (opd m).bind fun a => (opd k).bind fun b => (opd x).bind fun c => match d with
    | .map kt _ => (keyT P kt).map fun kk => .mapUpd kk a b c
    | _ => none
  | .mapEntry t m k => (P.underlying t).bind fun d => (opd m).bind fun a => (opd k).bind fun b => match d with
    | .map kt e => (keyT P kt).bind fun kk => (P.info? e).bind fun i => i.zero.bind fun z => (ofV z).map fun z => .mapEnt kk z a b
    | _ => none
  | .entryStore _ m s x => (opd m).bind fun a => (opd s).bind fun b => (opd x).map (.entSt a b)
  | .extract x i => (opd x).map fun a => .extract a i
  | .call c => compCall P c
  | _ => none
end Go.Vit
