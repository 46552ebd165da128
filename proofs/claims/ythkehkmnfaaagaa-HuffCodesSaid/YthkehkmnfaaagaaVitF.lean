/- Each operation that changes nothing that was there: the model's run of it stands for the abstract one. Part 3: all of them. -/
import Derived.Test.YthkehkmnfaaagaaVitE
set_option linter.unusedVariables false
set_option linter.unusedSimpArgs false
namespace Go.Vit
section
variable {P : Program} {w : World} {ρ : Ren} {σ : Mem} {t : Tmps} {η : Operand → Value} {id : Nat} {v : AV} {ob : Option Blk} {op : AOp}

theorem VRel.int_inv {k : IntKind} {n : Int} {v : Value} (h : VRel ρ (.int k n) v) : v = .int k n := by cases h; rfl
theorem VRel.str_inv {s : ByteArray} {v : Value} (h : VRel ρ (.str s) v) : v = .string s := by cases h; rfl
theorem VRel.bool_inv {b : Bool} {v : Value} (h : VRel ρ (.bool b) v) : v = .bool b := by cases h; rfl

theorem nop_mov {x : Operand} (o : Op) (ho : o = .move x ∨ o = .assign x) (hc : compOp P o = some op) (hn : nop id op t σ = some (v, ob)) (hE : HE η ρ t op.opds) : NRun P η o w ρ id v ob := by
  have hc' : (opd x).map .mov = some op := by rcases ho with rfl | rfl <;> exact hc
  simp only [Option.map_eq_some_iff] at hc'
  obtain ⟨a, ha, rfl⟩ := hc'
  simp only [nop, Option.bind_eq_some_iff, Option.some.injEq, Prod.mk.injEq] at hn
  obtain ⟨u, hu, rfl, rfl⟩ := hn
  exact .val (v' := η x) (fun _ _ _ _ _ => by rcases ho with rfl | rfl <;> rfl) (hE x a u ha (by simp [AOp.opds]) hu)

theorem nop_pick {c a b : Operand} (hc : compOp P (.pick c a b) = some op) (hn : nop id op t σ = some (v, ob)) (hE : HE η ρ t op.opds) : NRun P η (.pick c a b) w ρ id v ob := by
  simp only [compOp, Option.bind_eq_some_iff, Option.some.injEq] at hc
  obtain ⟨c', hc', a', ha', b', hb', rfl⟩ := hc
  simp only [nop, Option.bind_eq_some_iff] at hn
  obtain ⟨cv, hcv, hn⟩ := hn
  cases cv <;> simp only [Option.bind_eq_some_iff, Option.some.injEq, Prod.mk.injEq, reduceCtorEq] at hn
  rename_i r
  obtain ⟨u, hu, rfl, rfl⟩ := hn
  have h1 := hE c c' _ hc' (by simp [AOp.opds]) hcv
  have e1 := h1.bool_inv
  cases r with
  | true =>
    refine .val (v' := η a) (fun _ _ _ _ _ => by simp [execOp, e1, asBool]) (hE a a' u ha' (by simp [AOp.opds]) (by simpa using hu))
  | false =>
    refine .val (v' := η b) (fun _ _ _ _ _ => by simp [execOp, e1, asBool]) (hE b b' u hb' (by simp [AOp.opds]) (by simpa using hu))

theorem nop_alloc {e : TypeId} (hc : compOp P (.alloc e) = some op) (hn : nop id op t σ = some (v, ob)) (hρ : ρ id = none) : NRun P η (.alloc e) w ρ id v ob := by
  simp only [compOp, Option.map_eq_some_iff] at hc
  obtain ⟨z, hz, rfl⟩ := hc
  obtain ⟨i, zv, hi, hzv, hzr, hz1⟩ := zeroOf_spec hz
  simp only [nop, Option.some.injEq, Prod.mk.injEq] at hn
  obtain ⟨rfl, rfl⟩ := hn
  refine .mk (v' := .pointer (some ⟨w.heap.size, 0, none⟩)) (w' := w.alloc (.cells zv.cells e)) (fun _ _ _ _ _ => ?_)
    (.alloc (cs := zv.cells) (e := e) (fz := (0, 0)) hρ (.ptr updR_self) rfl (by rw [(hzr ρ).1]; exact Nat.le_refl _) (by simp) (fun i a ha => (hzr ρ).get ha) rfl rfl rfl)
  simp only [execOp, Instr.alloc, Sem.run_bind, zeroValue, typeInfo, run_program, hi, hzv, Result.andThen_ok, Sem.run_pure, newVar, newRow, run_newObj]; rfl

theorem nop_box {e : TypeId} {x : Operand} (hc : compOp P (.box e x) = some op) (hn : nop id op t σ = some (v, ob)) (hE : HE η ρ t op.opds) (hρ : ρ id = none) : NRun P η (.box e x) w ρ id v ob := by
  simp only [compOp, Option.map_eq_some_iff] at hc
  obtain ⟨a, ha, rfl⟩ := hc
  simp only [nop, Option.bind_eq_some_iff] at hn
  obtain ⟨u, hu, hn⟩ := hn
  split at hn
  · simp only [Option.some.injEq, Prod.mk.injEq] at hn
    obtain ⟨rfl, rfl⟩ := hn
    have h1 := (hE x a u ha (by simp [AOp.opds]) hu).cells
    refine .mk (v' := .pointer (some ⟨w.heap.size, 0, none⟩)) (w' := w.alloc (.cells (η x).cells e)) (fun _ _ _ _ _ => ?_)
      (.alloc (cs := (η x).cells) (e := e) (fz := (0, 0)) hρ (.ptr updR_self) rfl (by rw [h1.1]; exact Nat.le_refl _) (by simp) (fun i a ha => h1.get ha) rfl rfl rfl)
    simp only [execOp, Instr.box, Sem.run_bind, Result.andThen_ok, Sem.run_pure, newVar, newRow, run_newObj]; rfl
  · cases hn

theorem replicate_getElem {l : List AV} {cs : Array Value} (h : LRel ρ l cs) (n : Nat) : LRel ρ (List.replicate n l).flatten ((Array.range (n * l.length)).map (cs[· % cs.size]!)) := by
  induction n with
  | zero => simp [Array.range_zero']; exact LRel.nil ρ
  | succ n ih =>
    refine ⟨by simp, fun i a v ha hv => ?_⟩
    simp only [Array.getElem?_map, Option.map_eq_some_iff] at hv
    obtain ⟨j, hj, rfl⟩ := hv
    have hij : i = j ∧ i < (n + 1) * l.length := by
      rw [Array.getElem?_range] at hj
      split at hj
      · cases hj; exact ⟨rfl, by assumption⟩
      · cases hj
    obtain ⟨rfl, hlt⟩ := hij
    have hpos : 0 < l.length := by
      rcases Nat.eq_zero_or_pos l.length with e | e
      · rw [e] at hlt; simp at hlt
      · exact e
    have hmod : ∀ (m i : Nat), i < m * l.length → (List.replicate m l).flatten[i]? = l[i % l.length]? := by
      intro m
      induction m with
      | zero => intro i hi; simp at hi
      | succ m ihm =>
        intro i hi
        rw [List.replicate_succ, List.flatten_cons]
        by_cases h : i < l.length
        · rw [List.getElem?_append_left h, Nat.mod_eq_of_lt h]
        · rw [List.getElem?_append_right (by omega), ihm _ (by rw [Nat.succ_mul] at hi; omega)]
          congr 1
          exact (Nat.mod_eq_sub_mod (by omega)).symm
    rw [hmod _ _ hlt] at ha
    have hlt' : i % l.length < l.length := Nat.mod_lt _ hpos
    have hlt2 : i % cs.size < cs.size := by rw [← h.1]; exact hlt'
    have : cs[i % cs.size]! = cs[i % cs.size]'hlt2 := by simp [hlt2]
    rw [this]
    refine h.2 _ a _ ha ?_
    rw [h.1]
    exact Array.getElem?_eq_getElem hlt2

theorem nop_newSlice {ty : TypeId} {n : Nat} {ps : Array (Nat × Operand)} (hc : compOp P (.buildSlice ty n ps) = some op) (hn : nop id op t σ = some (v, ob)) (hE : HE η ρ t op.opds) (hρ : ρ id = none) :
    NRun P η (.buildSlice ty n ps) w ρ id v ob := by
  simp only [compOp, Option.bind_eq_some_iff] at hc
  obtain ⟨d, hd, hc⟩ := hc
  cases d <;> simp only [Option.bind_eq_some_iff, reduceCtorEq] at hc
  rename_i e
  obtain ⟨i, hi, z, hz, as, has, hc⟩ := hc
  split at hc
  · rename_i hcond
    cases hc
    obtain ⟨i', zv, hi', hzv, hzr, hz1⟩ := zeroOf_spec hz
    have ei : i = i' := by rw [hi] at hi'; cases hi'; rfl
    subst ei
    simp only [nop, Option.bind_eq_some_iff, Option.some.injEq, Prod.mk.injEq] at hn
    obtain ⟨l, hl, rfl, rfl⟩ := hn
    have hzz := replicate_getElem (hzr ρ) n
    rw [hcond.2] at hzz
    obtain ⟨cs, hf, hr⟩ := fill_rel (η := η) (fun j => some (j * i.size, i.size)) ps.toList as _ l _ ⟨(partsA_spec has).1, fun i p a hp ha => (partsA_spec has).2 i p a hp ha⟩ hl hzz hE
    refine .mk (v' := .slice (some ⟨w.heap.size, 0, none⟩) n n) (w' := w.alloc (.cells cs e)) (fun _ _ _ _ _ => ?_)
      (.alloc (cs := cs) (e := e) (fz := (0, 0)) hρ (.slice updR_self (Nat.le_refl _) (fun k hk => by cases hk; rfl) (fun s hs _ => by cases hs) (.inr rfl)) rfl (by rw [hr.1]; exact Nat.le_refl _) (by simp) (fun i a ha => hr.get ha) rfl rfl rfl)
    have hm' : (ps.map fun (i, x) => (i, η x)).toList = ps.toList.map fun p => (p.1, η p.2) := by simp
    have hno : ¬ (n * i.size > 2 ^ 24) := by omega
    by_cases h0 : n * i.size = 0
    · have e0 : (Array.range (n * i.size)).map (fun j => (#[] : Array Value)[j % (#[] : Array Value).size]!) = (Array.range (n * i.size)).map (fun j => zv.cells[j % zv.cells.size]!) := by rw [h0]; simp [Array.range_zero']
      simp only [execOp, Instr.buildSlice, Sem.run_bind, run_underlying hd, Result.andThen_ok, sizeOf, typeInfo, run_program, hi, Sem.run_pure, hno, if_false, h0, if_true]
      rw [h0] at hf
      simp only [Array.range_zero', Array.map_empty] at hf ⊢
      simp only [hm', hf]
      simp only [newRow, Sem.run_bind, run_newObj, Result.andThen_ok, Sem.run_pure]; rfl
    · simp only [execOp, Instr.buildSlice, Sem.run_bind, run_underlying hd, Result.andThen_ok, sizeOf, typeInfo, run_program, hi, Sem.run_pure, hno, if_false, h0, zeroValue, hzv, hm', hf]
      simp only [newRow, Sem.run_bind, run_newObj, Result.andThen_ok, Sem.run_pure]; rfl
  · cases hc

theorem nop_load {ty : TypeId} {x : Operand} (hc : compOp P (.load ty x) = some op) (hn : nop id op t σ = some (v, ob)) (hE : HE η ρ t op.opds) (st : St ρ σ w) : NRun P η (.load ty x) w ρ id v ob := by
  simp only [compOp, Option.bind_eq_some_iff, Option.map_eq_some_iff] at hc
  obtain ⟨k, hk, a, ha, rfl⟩ := hc
  obtain ⟨i, hi, hagg, hsz⟩ := shapeOf_spec hk
  simp only [nop, Option.bind_eq_some_iff] at hn
  obtain ⟨av, hav, hn⟩ := hn
  have h1 := hE x a av ha (by simp [AOp.opds]) hav
  cases av <;> simp only [reduceCtorEq] at hn
  rename_i b o
  obtain ⟨b', o', m', hρb, hx⟩ : ∃ b' o' m', ρ b = some (b', o', m') ∧ η x = .pointer (some ⟨b', o' + o, none⟩) := by
    generalize η x = u at h1
    cases h1; rename_i h; exact ⟨_, _, _, h, rfl⟩
  cases k with
  | none =>
    simp only [Option.bind_eq_some_iff] at hn
    obtain ⟨c, hc, hn⟩ := hn
    match c, hn with
    | [u], hn =>
      simp only [Option.some.injEq, Prod.mk.injEq] at hn
      obtain ⟨rfl, rfl⟩ := hn
      obtain ⟨_, cs, hcl, hcell, hrel⟩ := st.cells hc hρb
      match cs, hcl with
      | [z], _ =>
        have hz := hcell 0 z rfl
        refine .val (v' := z) (fun _ _ _ _ _ => ?_) (hrel 0 u z rfl rfl)
        simp only [Nat.add_zero] at hz
        simp [execOp, Instr.loadAt, Instr.sureAddr, hx, loadVar, hagg, hz]
  | some n =>
    simp only [Option.bind_eq_some_iff, Option.some.injEq, Prod.mk.injEq] at hn
    obtain ⟨c, hc, rfl, rfl⟩ := hn
    obtain ⟨hlen, cs, hcl, hcell, hrel⟩ := st.cells hc hρb
    refine .val (v' := .agg cs.toArray) (fun _ _ _ _ _ => ?_) (.agg (by simp [hlen, hcl]) (fun i a v ha hv => hrel i a v ha (by simpa using hv)))
    have hl := run_loadCells_list (P := P) w ⟨b', o' + o, none⟩ cs (fun j v hj => by rw [add_plain _ rfl]; exact hcell j v hj)
    rw [hcl] at hl
    simp [execOp, Instr.loadAt, Instr.sureAddr, hx, loadVar, hagg, sizeOf, typeInfo, hi, hsz n rfl, hl]

theorem nop_nilchk {x : Operand} (hc : compOp P (.nilCheck x) = some op) (hn : nop id op t σ = some (v, ob)) (hE : HE η ρ t op.opds) : NRun P η (.nilCheck x) w ρ id v ob := by
  simp only [compOp, Option.map_eq_some_iff] at hc
  obtain ⟨a, ha, rfl⟩ := hc
  simp only [nop, Option.bind_eq_some_iff] at hn
  obtain ⟨av, hav, hn⟩ := hn
  have h1 := hE x a av ha (by simp [AOp.opds]) hav
  cases av <;> simp only [reduceCtorEq, Option.some.injEq, Prod.mk.injEq] at hn
  all_goals
    obtain ⟨rfl, rfl⟩ := hn
    refine .val (v' := η x) (fun _ _ _ _ _ => ?_) h1
    simp only [execOp]
    generalize η x = u at h1
    cases h1
    simp

theorem nop_bin {b : BinOp} {ty : TypeId} {x y : Operand} {yt : TypeId} (hc : compOp P (.binOp b ty x y yt) = some op) (hn : nop id op t σ = some (v, ob)) (hE : HE η ρ t op.opds) : NRun P η (.binOp b ty x y yt) w ρ id v ob := by
  simp only [compOp, Option.bind_eq_some_iff, Option.map_eq_some_iff] at hc
  obtain ⟨e, he, a, ha, c, hc, rfl⟩ := hc
  simp only [nop, Option.bind_eq_some_iff, Option.some.injEq, Prod.mk.injEq] at hn
  obtain ⟨av, hav, bv, hbv, r, hr, rfl, rfl⟩ := hn
  obtain ⟨z, h1, h2⟩ := bin_run (w := w) he hr (hE x a av ha (by simp [AOp.opds]) hav) (hE y c bv hc (by simp [AOp.opds]) hbv) x y
  refine .val (v' := z) (fun _ _ _ _ _ => ?_) h2
  simp only [execOp, Sem.run_bind] at h1 ⊢
  rw [h1]; rfl

theorem nop_un {b : UnOp} {ty : TypeId} {x : Operand} (hc : compOp P (.unOp b ty x) = some op) (hn : nop id op t σ = some (v, ob)) (hE : HE η ρ t op.opds) : NRun P η (.unOp b ty x) w ρ id v ob := by
  simp only [compOp, Option.map_eq_some_iff] at hc
  obtain ⟨a, ha, rfl⟩ := hc
  simp only [nop, Option.bind_eq_some_iff, Option.some.injEq, Prod.mk.injEq] at hn
  obtain ⟨av, hav, r, hr, rfl, rfl⟩ := hn
  have h1 := hE x a av ha (by simp [AOp.opds]) hav
  unfold unV at hr
  split at hr
  · have e1 := h1.int_inv
    cases b <;> simp only [reduceCtorEq, Option.some.injEq] at hr
    · subst hr; exact .val (v' := .int _ _) (fun _ _ _ _ _ => by simp [execOp, e1, Op.unary, Op.intArith]) (.int _ _)
    · subst hr
      exact .val (v' := .int _ _) (fun _ _ _ _ _ => by simp only [execOp, e1, Op.unary, Sem.run_bind, bits_run .xor (by simp), Result.andThen_ok, Sem.run_pure]) (.int _ _)
  · have e1 := h1.bool_inv
    cases b <;> simp only [reduceCtorEq, Option.some.injEq] at hr
    subst hr; exact .val (v' := .bool _) (fun _ _ _ _ _ => by simp [execOp, e1, Op.unary]) (.bool _)
  · cases hr

theorem nop_mkFn {fn : Fn} {first captured : Array Operand} (hc : compOp P (.makeFunc fn first captured) = some op) (hn : nop id op t σ = some (v, ob)) (hE : HE η ρ t op.opds) : NRun P η (.makeFunc fn first captured) w ρ id v ob := by
  cases fn <;> simp only [compOp, reduceCtorEq] at hc
  split at hc
  · rename_i f h0
    simp only [Option.map_eq_some_iff] at hc
    obtain ⟨as, has, rfl⟩ := hc
    simp only [nop, Option.bind_eq_some_iff, Option.some.injEq, Prod.mk.injEq] at hn
    obtain ⟨l, hl, rfl, rfl⟩ := hn
    have hr := evs_rel (P := P) (η := η) has hl (fun x a v hx hm hv => hE x a v hx hm hv)
    have e0 : first = #[] := Array.eq_empty_of_size_eq_zero h0
    subst e0
    have hm : captured.map η = (captured.toList.map η).toArray := by rw [← Array.toList_map]
    refine .val (v' := .func (.func f) #[] (captured.toList.map η).toArray) (fun _ _ _ _ _ => ?_) (.func hr.1 hr.2)
    simp only [execOp, Instr.makeFunc, Sem.run_bind, Sem.run_pure, Result.andThen_ok, hm, Array.map_empty]
  · cases hc

theorem nop_mkMap {ty : TypeId} {r : Option Operand} (hc : compOp P (.makeMap ty r) = some op) (hn : nop id op t σ = some (v, ob)) (hρ : ρ id = none) : NRun P η (.makeMap ty r) w ρ id v ob := by
  cases r <;> simp only [compOp, reduceCtorEq, Option.some.injEq] at hc
  subst hc
  simp only [nop, Option.some.injEq, Prod.mk.injEq] at hn
  obtain ⟨rfl, rfl⟩ := hn
  refine .mk (v' := .map (some w.heap.size)) (w' := w.alloc (.map #[] 0)) (ρ' := updR ρ id (w.heap.size, 0, 0)) (fun _ _ _ _ _ => ?_) ?_
  · simp only [execOp, Option.map_none, Sem.run_bind, Instr.makeMap, run_newObj, Result.andThen_ok, Sem.run_pure]; rfl
  · refine ⟨.map updR_self, fun b hb => by simp [updR, hb], (by intro e; cases e), fun k e => ?_, fun c hc => heap_push_lt hc, (by show _ ≤ (w.heap.push _).size; rw [Array.size_push]; omega), rfl, rfl, rfl⟩
    cases e
    exact ⟨0, updR_self, ⟨rfl, #[], Array.getElem?_push_size, rfl, fun i e h => by simp at h⟩, rfl, rfl⟩
end
end Go.Vit
