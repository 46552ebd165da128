/- Operations that change memory: the model's run of each stands for the abstract one. -/
import Derived.Test.YthkehkmnfaaagaaVitK
set_option linter.unusedVariables false
set_option linter.unusedSimpArgs false
namespace Go.Vit
def ERun (P : Program) (η : Operand → Value) (o : Op) (w : World) (ρ : Ren) (σ : Mem) (id : Nat) (v : AV) (σ' : Mem) : Prop :=
  ∀ (dst : Option Tmp) (ty : TypeId) (pos : String) (after : Array Edge) (g : Option (Nat × Bool)),
    ∃ nx v' w' ρ', (execOp η ⟨dst, o, ty, pos, after, g⟩).run P w = .ok nx w' ∧ (nx = .value v' ∨ (nx = .skip ∧ v' = undef)) ∧ VRel ρ' v v' ∧ Step (· = id) ρ σ w ρ' σ' w'
section
variable {P : Program} {w : World} {ρ : Ren} {σ σ' : Mem} {t : Tmps} {η : Operand → Value} {id : Nat} {v : AV} {op : AOp}

theorem undef_rel : VRel ρ (.tup []) undef := .tup rfl (fun i a v h => by simp at h)
theorem ERun.unit {o : Op} {w' : World} {ρ' : Ren} (hr : ∀ dst ty pos after g, (execOp η ⟨dst, o, ty, pos, after, g⟩).run P w = .ok .skip w') (h : Step (· = id) ρ σ w ρ' σ' w') : ERun P η o w ρ σ id (.tup []) σ' :=
  fun dst ty pos after g => ⟨.skip, undef, w', ρ', hr dst ty pos after g, .inr ⟨rfl, rfl⟩, undef_rel, h⟩
theorem ERun.mk {o : Op} {v' : Value} {w' : World} {ρ' : Ren} (hr : ∀ dst ty pos after g, (execOp η ⟨dst, o, ty, pos, after, g⟩).run P w = .ok (.value v') w') (hv : VRel ρ' v v') (h : Step (· = id) ρ σ w ρ' σ' w') : ERun P η o w ρ σ id v σ' :=
  fun dst ty pos after g => ⟨.value v', v', w', ρ', hr dst ty pos after g, .inl rfl, hv, h⟩

theorem St.congr {w' : World} (st : St ρ σ w) (h : w'.heap = w.heap) : St ρ σ w' :=
  ⟨st.dom, st.live, fun b k p hb hp => (st.rel b k p hb hp).move (fun _ => by rw [h]), st.inj⟩
theorem Step.congr {N : Nat → Prop} {ρ' : Ren} {w0 w' : World} (h : Step N ρ σ w0 ρ' σ' w') (hh : w0.heap = w.heap) (ho : w0.os = w.os) (ht : w0.tape = w.tape) (hout : w0.output = w.output) : Step N ρ σ w ρ' σ' w' :=
  ⟨h.st, h.next, h.ext, fun b p e e' => by have := h.fresh b p e e'; rw [hh] at this; exact this, h.old, h.same, fun c hc hno => by have := h.frame c (by rw [hh]; exact hc) hno; rw [hh] at this; exact this,
    by have := h.size; rw [hh] at this; exact this, h.os.trans ho, h.tape.trans ht, h.out.trans hout⟩

theorem eop_store {ty : TypeId} {a x : Operand} (hc : compOp P (.store ty a x) = some op) (he : eop id op t σ = some (v, σ')) (hE : HE η ρ t op.opds) (st : St ρ σ w) : ERun P η (.store ty a x) w ρ σ id v σ' := by
  simp only [compOp, Option.bind_eq_some_iff, Option.map_eq_some_iff] at hc
  obtain ⟨i, hi, a', ha, x', hx, rfl⟩ := hc
  simp only [eop, Option.bind_eq_some_iff] at he
  obtain ⟨av, hav, xv, hxv, he⟩ := he
  have h1 := hE a a' av ha (by simp [AOp.opds]) hav
  have h2 := hE x x' xv hx (by simp [AOp.opds]) hxv
  cases av <;> simp only [reduceCtorEq] at he
  rename_i b o
  split at he
  · rename_i c hget
    split at he
    · rename_i hcond
      simp only [Option.some.injEq, Prod.mk.injEq] at he
      obtain ⟨rfl, rfl⟩ := he
      obtain ⟨b', o', m', hρb, e1⟩ := h1.ptr_inv
      obtain ⟨h0, cs, e, fz, hh, hP, hmm, hfz⟩ := (st.rel b _ _ hget hρb).rw_inv
      simp only at h0; subst h0
      have hcl := h2.cells
      have hcl' : LRel ρ xv.cells (η x).cells.toList.toArray := by simpa using hcl
      have hsz : (η x).cells.size = i.size := by rw [← hcl.1]; exact hcond.1
      obtain ⟨w', r1, r2, r3, r4, r5, r6, r7⟩ := run_storeBlock (P := P) b' (0 + o) e fz (η x).cells.toList 0 cs w hh hfz (by have := hP.1; simp; omega) (hcl'.oneCell hcond.2.2)
      rw [Nat.add_zero, Nat.zero_add] at r2
      refine .unit (w' := w') (fun _ _ _ _ _ => ?_) (.update st hget rfl rfl hρb (.rw_mk rfl r2 (PRel.setAt _ _ _ _ _ hP hcl' (by have := hP.1; omega)) (by rw [setArr_size]; exact hmm) (fun i hi => hfz i (by rwa [setArr_size] at hi))) r3 r4 r5 r6 r7)
      simp only [execOp, Instr.storeAt, e1, Instr.sureAddr, Sem.run_bind, Sem.run_pure, Result.andThen_ok, storeVar, sizeOf, typeInfo, run_program, hi, hsz, ne_eq, not_true_eq_false, if_false, r1]
    · cases he
  · cases he

/-- The cells of an append's second operand. -/
theorem src_run {size : Nat} {xa : AV} {nc : Nat × List AV} (h : srcCells σ size xa = some nc) {u : Value} (hx : VRel ρ xa u) (st : St ρ σ w) :
    (∀ w', (Builtin.lenOf u).run P w' = .ok nc.1 w') ∧ nc.2.length = nc.1 * size ∧ ∃ vs : List Value, (Builtin.firstCells size nc.1 u).run P w = .ok vs.toArray w ∧ LRel ρ nc.2 vs.toArray := by
  cases xa <;> simp only [srcCells, reduceCtorEq, Option.some.injEq, Option.bind_eq_some_iff] at h
  case nils =>
    subst h; rw [hx.nils_inv]
    exact ⟨fun w' => by simp [Builtin.lenOf], by simp, [], by simp [Builtin.firstCells], LRel.nil ρ⟩
  case slice b o n c =>
    obtain ⟨l, hl, e⟩ := h
    subst e
    obtain ⟨b', o', _, cap, ad, hρb, e1, hncap, _, _, had⟩ := hx.slice_inv
    obtain ⟨hlen, cs, hcl, hcell, hrel⟩ := st.cells hl hρb
    rw [e1]
    refine ⟨fun w' => by simp [Builtin.lenOf], hlen, cs, ?_, .of_list (by rw [hlen, hcl]) hrel⟩
    rcases Nat.eq_zero_or_pos n with h0 | h0
    · subst h0
      rw [Nat.zero_mul] at hcl
      have : cs = [] := List.eq_nil_of_length_eq_zero hcl
      subst this; simp [Builtin.firstCells, loadCells, loadCellsFrom]
    · have hcap : ad = ⟨b', o' + o, none⟩ := had.resolve_left (by omega)
      exact run_firstCells_some (P := P) w size n ad n cap cs hcl (fun j v hj => by rw [hcap, add_at]; exact hcell j v hj)
  case str s =>
    split at h
    · rename_i h1; subst h1
      cases h
      rw [hx.str_inv]
      have hex : s.extract 0 s.size = s := by
        apply ByteArray.ext
        simp [ByteArray.data_extract]
      refine ⟨fun w' => by simp [Builtin.lenOf], by simp [bytesOf], s.data.toList.map (fun b => .int .u8 b.toNat), ?_, .of_list (by simp [bytesOf]) (fun i a v ha hv => ?_)⟩
      · simp only [Builtin.firstCells, hex, Sem.run_pure]
        congr 1
        apply Array.ext'; simp
      · simp only [bytesOf, List.getElem?_map, Option.map_eq_some_iff] at ha hv
        obtain ⟨c, hc, rfl⟩ := ha
        obtain ⟨c', hc', rfl⟩ := hv
        rw [hc] at hc'; cases hc'; exact .int _ _
    · cases h

theorem append_room {ty e : TypeId} {u : TypeId} {us : List TypeId} {du : TypeDesc} {i : TypeInfo} (ht : P.underlying ty = some (.slice e)) (hu : P.underlying u = some du) (hnz : ∀ k, du ≠ .int k) (hi : P.info? e = some i)
    {base : Option Addr} {sLen sCap n : Nat} {xv : Value} (hlen : ∀ w', (Builtin.lenOf xv).run P w' = .ok n w') (hle : sLen + n ≤ sCap) {new : Array Value} (hnew : (Builtin.firstCells i.size n xv).run P w = .ok new w) {w2 : World}
    (hst : match base with | some a => (storeCells (a.add (sLen * i.size)) new.toList).run P w = .ok () w2 | none => w2 = w) :
    ∀ ty', (Builtin.append_ (ty :: u :: us).toArray ty' #[.slice base sLen sCap, xv]).run P w = .ok (.slice base (sLen + n) sCap) w2 := by
  intro ty'
  have hz : (match du with | .int _ => true | _ => false) = false := by cases du <;> first | rfl | exact absurd rfl (hnz _)
  have e0 : (ty :: u :: us).toArray[0]? = some ty := rfl
  have e1 : (ty :: u :: us).toArray[1]? = some u := rfl
  have a0 : (#[.slice base sLen sCap, xv] : Array Value)[0]? = some (.slice base sLen sCap) := rfl
  have a1 : (#[.slice base sLen sCap, xv] : Array Value)[1]? = some xv := rfl
  cases base with
  | none =>
    simp only at hst; subst hst
    simp only [Builtin.append_, e0, e1, a0, a1, Sem.run_bind, run_underlying ht, run_underlying hu, Result.andThen_ok, sizeOf, typeInfo, run_program, hi, Sem.run_pure, hz, Bool.false_eq_true, if_false, hlen, hle, if_true, Bool.not_false, hnew]
  | some a =>
    simp only at hst
    simp only [Builtin.append_, e0, e1, a0, a1, Sem.run_bind, run_underlying ht, run_underlying hu, Result.andThen_ok, sizeOf, typeInfo, run_program, hi, Sem.run_pure, hz, Bool.false_eq_true, if_false, hlen, hle, if_true, Bool.not_false, hnew, hst]

theorem zeroCells_size (z : Array Value) (n : Nat) : (Builtin.zeroCells z n).size = n * z.size := by simp [Builtin.zeroCells]

theorem append_grow {ty e : TypeId} {u : TypeId} {us : List TypeId} {du : TypeDesc} {i : TypeInfo} {z : Value} (ht : P.underlying ty = some (.slice e)) (hu : P.underlying u = some du) (hnz : ∀ k, du ≠ .int k) (hi : P.info? e = some i) (hzv : i.zero = some z)
    (hzs : z.cells.size = i.size)
    {base : Option Addr} {sLen sCap n : Nat} {xv : Value} (hlen : ∀ w', (Builtin.lenOf xv).run P w' = .ok n w') (hlt : sCap < sLen + n) (hb : (sLen + n) * i.bytes ≤ 140737488355328) (hb0 : i.bytes ≠ 0)
    {old new : Array Value} (hold : (Builtin.firstCells i.size sLen (.slice base sLen sCap)).run P w.drew = .ok old w.drew) (hnew : (Builtin.firstCells i.size n xv).run P w.drew = .ok new w.drew) (hsz : old.size + new.size = (sLen + n) * i.size) :
    ∃ cap rest, sLen + n ≤ cap ∧ (old ++ new ++ rest).size = cap * i.size ∧ ∀ ty', (Builtin.append_ (ty :: u :: us).toArray ty' #[.slice base sLen sCap, xv]).run P w = .ok (.slice (some ⟨w.heap.size, 0, none⟩) (sLen + n) cap) (w.drew.alloc (.cells (old ++ new ++ rest) e)) := by
  have hz : (match du with | .int _ => true | _ => false) = false := by cases du <;> first | rfl | exact absurd rfl (hnz _)
  have e0 : (ty :: u :: us).toArray[0]? = some ty := rfl
  have e1 : (ty :: u :: us).toArray[1]? = some u := rfl
  have a0 : (#[.slice base sLen sCap, xv] : Array Value)[0]? = some (.slice base sLen sCap) := rfl
  have a1 : (#[.slice base sLen sCap, xv] : Array Value)[1]? = some xv := rfl
  have hn : ¬ (sLen + n ≤ sCap) := by omega
  have hfit : ¬ (Builtin.nextslicecap (sLen + n) sCap * i.bytes > 2 ^ 48) := by have := growslice_fits (bytes := i.bytes) hlt hb; omega
  have hc1 : ¬ (((sLen + n : Nat) : Int) > IntKind.i64.max ∧ (false = true ∨ i.bytes = 0)) := by rintro ⟨_, h | h⟩ <;> simp_all
  have hforced : (Question.appendCap (sLen + n) sCap e).forced = false := rfl
  have hdrew : ({ w with drawn := w.drawn + 1 } : World) = w.drew := rfl
  refine ⟨(Question.appendCap (sLen + n) sCap e).cut (w.tape w.drawn (.appendCap (sLen + n) sCap e)), Builtin.zeroCells z.cells ((Question.appendCap (sLen + n) sCap e).cut (w.tape w.drawn (.appendCap (sLen + n) sCap e)) - (sLen + n)), Nat.le_add_right _ _, ?_, ?_⟩
  · have hge : sLen + n ≤ (Question.appendCap (sLen + n) sCap e).cut (w.tape w.drawn (.appendCap (sLen + n) sCap e)) := Nat.le_add_right _ _
    rw [Array.size_append, Array.size_append, zeroCells_size, hsz, hzs, ← Nat.add_mul]
    congr 1; omega
  · intro ty'
    simp only [Builtin.append_, e0, e1, a0, a1, Sem.run_bind, run_underlying ht, run_underlying hu, Result.andThen_ok, sizeOf, typeInfo, run_program, hi, Sem.run_pure, hz, Bool.false_eq_true, if_false, hlen, hn, if_true, Bool.not_false]
    simp only [hc1, hfit, if_false, false_or, Sem.run_bind, Sem.run_pure, Sem.run_ite, Result.andThen_ok, run_choose, hforced, Bool.false_eq_true, run_askRoom, hdrew, hold, hnew, zeroValue, typeInfo, run_program, hi, hzv, newRow, run_newObj]
    simp [hi, hb0, hfit]
    rfl

theorem cells_lt {σ : Mem} {b o n : Nat} {l : List AV} (h : σ.cells b o n = some l) : ∃ k c, σ.get b = some k ∧ k.cellsR = some c ∧ o + n ≤ c.length ∧ l = (c.drop o).take n := by
  simp only [Mem.cells, Option.bind_eq_some_iff] at h
  obtain ⟨k, hk, c, hc, h⟩ := h
  split at h
  · cases h; exact ⟨k, c, hk, hc, by assumption, rfl⟩
  · cases h

theorem PRel.append {c d : List AV} {cs rest : Array Value} {vs : List Value} (h : LRel ρ c cs) (h' : LRel ρ d vs.toArray) : PRel ρ (c ++ d) (cs ++ vs.toArray ++ rest) := by
  have hh := h.append h'
  refine ⟨by rw [hh.1]; simp, fun i a ha => ?_⟩
  obtain ⟨v, hv, hr⟩ := hh.get ha
  refine ⟨v, ?_, hr⟩
  have hi : i < (cs ++ vs.toArray).size := (Array.getElem?_eq_some_iff.1 hv).1
  rw [Array.getElem?_append_left hi]; exact hv

theorem PRel.extend {l d : List AV} {cs : Array Value} {vs : List Value} {off : Nat} (h : PRel ρ l cs) (h' : LRel ρ d vs.toArray) (hl : l.length = off) (hle : off + d.length ≤ cs.size) : PRel ρ (l ++ d) (setArr cs off vs) := by
  have key : ∀ (d : List AV) (vs : List Value) (l : List AV) (cs : Array Value), PRel ρ l cs → LRel ρ d vs.toArray → l.length + d.length ≤ cs.size → PRel ρ (l ++ d) (setArr cs l.length vs) := by
    intro d
    induction d with
    | nil =>
      intro vs l cs h h' _
      have : vs = [] := List.eq_nil_of_length_eq_zero (by have := h'.1; simpa using this.symm)
      subst this; simpa [setArr] using h
    | cons a d ih =>
      intro vs l cs h h' hle
      match vs, h' with
      | [], h' => have := h'.1; simp at this
      | v :: vs, h' =>
        simp only [List.length_cons] at hle
        have h0 : VRel ρ a v := h'.2 0 a v rfl (by simp)
        have h1 : PRel ρ (l ++ [a]) (cs.setIfInBounds l.length v) := by
          refine ⟨by simp; omega, fun i x hx => ?_⟩
          by_cases hi : i < l.length
          · rw [List.getElem?_append_left hi] at hx
            rw [Array.getElem?_setIfInBounds_ne (by omega)]
            exact h.2 i x hx
          · have : i = l.length := by have := (List.getElem?_eq_some_iff.1 hx).1; simp at this; omega
            subst this
            simp at hx; subst hx
            exact ⟨v, by have : l.length < cs.size := by omega
                         simp [this], h0⟩
        have hl' : LRel ρ d vs.toArray := ⟨by have := h'.1; simpa using this, fun i a v ha hv => h'.2 (i + 1) a v (by simpa using ha) (by simpa using hv)⟩
        have := ih vs (l ++ [a]) (cs.setIfInBounds l.length v) h1 hl' (by simp; omega)
        rw [List.append_assoc, List.length_append] at this
        exact this
  subst hl
  exact key d vs l cs h h' hle

theorem eop_append {s x : Operand} {ats : Array TypeId} {args : Array Operand} (hc : compCall P { callee := .builtin .append, args := args, argTypes := ats } = some op) (he : eop id op t σ = some (v, σ')) (hE : HE η ρ t op.opds) (st : St ρ σ w) (hρ : ρ id = none) (hid : id < σ.next) (hget : σ.get id = none) :
    ERun P η (.call { callee := .builtin .append, args := args, argTypes := ats }) w ρ σ id v σ' := by
  simp only [compCall] at hc
  split at hc
  all_goals (try (rename_i heq _ _; cases heq; done))
  all_goals (try (rename_i heq _; cases heq; done))
  all_goals (try (cases hc; done))
  rename_i s x ty u us _ hargs hats
  have ea := two_args hargs
  obtain ⟨us', et⟩ : ∃ us', ats = (ty :: u :: us').toArray := ⟨us, by rw [← hats]⟩
  subst ea; subst et
  simp only [Option.bind_eq_some_iff] at hc
  obtain ⟨d, hd, du, hdu, a, ha, b, hb, hc⟩ := hc
  cases d <;> simp only [reduceCtorEq, Option.bind_eq_some_iff] at hc
  rename_i e
  obtain ⟨i, hi, hc⟩ := hc
  have hnz : ∀ k, du ≠ .int k := by intro k hk; subst hk; simp at hc
  have hc' : ¬ (i.size = 0 ∨ i.bytes = 0 ∨ (i.zero.map fun z => z.cells.size) ≠ some i.size) ∧ op = .append i.size i.bytes a b := by
    cases du with
    | int k => simp at hc
    | _ =>
      simp only at hc
      split at hc
      · cases hc
      · rename_i h; cases hc; exact ⟨h, rfl⟩
  obtain ⟨hcond, rfl⟩ := hc'
  have hb0 : i.bytes ≠ 0 := fun h => hcond (.inr (.inl h))
  obtain ⟨zv, hzv, hzs⟩ : ∃ z, i.zero = some z ∧ z.cells.size = i.size := by
    have h2 : (i.zero.map fun z => z.cells.size) = some i.size := Decidable.byContradiction fun h => hcond (.inr (.inr h))
    simpa [Option.map_eq_some_iff] using h2
  simp only [eop, Option.bind_eq_some_iff] at he
  obtain ⟨sv, hsv, xv, hxv, nc, hnc, he⟩ := he
  have h1 := hE s a sv ha (by simp [AOp.opds]) hsv
  have h2 := hE x b xv hb (by simp [AOp.opds]) hxv
  obtain ⟨hlen, hcl, vs, hfirst, hvs⟩ := src_run (P := P) hnc h2 st
  obtain ⟨_, _, vs', hfirst', hvs'⟩ := src_run (P := P) hnc h2 (st.congr (w' := w.drew) rfl)
  have hex : ∀ (ty' : TypeId) (dst : Option Tmp) (pos : String) (after : Array Edge) (g : Option (Nat × Bool)) {r : Value} {w2 : World}, (Builtin.append_ (ty :: u :: us').toArray ty' #[η s, η x]).run P w = .ok r w2 →
      (execOp η ⟨dst, .call { callee := .builtin .append, args := #[s, x], argTypes := (ty :: u :: us').toArray }, ty', pos, after, g⟩).run P w = .ok (.value r) w2 := by
    intro ty' dst pos after g r w2 h
    rw [exec_builtin]
    have : (#[s, x] : Array Operand).map η = #[η s, η x] := by simp
    rw [this]
    simp only [builtin, Sem.run_bind, h, Result.andThen_ok, Sem.run_pure]
  -- an append of nothing
  have none_case : ∀ {base : Option Addr} {sLen sCap : Nat}, η s = .slice base sLen sCap → sLen ≤ sCap → nc.1 = 0 → v = sv → σ' = σ → ERun P η (.call { callee := .builtin .append, args := #[s, x], argTypes := (ty :: u :: us').toArray }) w ρ σ id v σ' := by
    intro base sLen sCap e1 hle h0 hv hσ
    subst hv; subst hσ
    have hvs0 : vs = [] := by
      have := hvs.1; rw [hcl, h0, Nat.zero_mul] at this; exact List.eq_nil_of_length_eq_zero (by simpa using this.symm)
    subst hvs0
    refine .mk (v' := η s) (w' := w) (fun dst ty' pos after g => hex ty' dst pos after g ?_) h1 (.refl st)
    rw [e1]
    have := append_room (base := base) (sLen := sLen) (sCap := sCap) (xv := η x) (us := us') hd hdu hnz hi hlen (by rw [h0]; exact hle) hfirst (w2 := w) (by cases base <;> simp [storeCells])
    rw [this ty', h0]; rfl
  cases sv <;> simp only [reduceCtorEq] at he
  case nils =>
    have e1 := h1.nils_inv
    split at he
    · rename_i h0
      simp only [Option.some.injEq, Prod.mk.injEq] at he
      exact none_case e1 (Nat.le_refl _) h0 he.1.symm he.2.symm
    · rename_i h0
      split at he
      · rename_i hcnd
        simp only [Option.some.injEq, Prod.mk.injEq] at he
        obtain ⟨rfl, rfl⟩ := he
        have hold : (Builtin.firstCells i.size 0 (.slice none 0 0)).run P w.drew = .ok #[] w.drew := by simp [Builtin.firstCells]
        have hvl : vs'.toArray.size = nc.1 * i.size := by rw [← hvs'.1, hcl]
        obtain ⟨cap, rest, hcap, hsz, hrun⟩ := append_grow (w := w) (us := us') (xv := η x) hd hdu hnz hi hzv hzs hlen (sLen := 0) (sCap := 0) (base := none) (by omega) (by rw [Nat.zero_add]; exact hcnd.1) hb0 hold hfirst' (by rw [hvl]; simp)
        have hN : NRes id ρ w (.slice id 0 nc.1 (.op i.size)) (some (.rw nc.2)) (.slice (some ⟨w.heap.size, 0, none⟩) nc.1 cap) (w.drew.alloc (.cells (#[] ++ vs'.toArray ++ rest) e)) (updR ρ id (w.heap.size, 0, (#[] ++ vs'.toArray ++ rest).size)) := by
          have hP := PRel.append (rest := rest) (LRel.nil ρ) hvs'
          rw [List.nil_append] at hP
          exact .alloc (fz := (0, 0)) hρ (.slice updR_self (by omega) (fun k hk => by cases hk) (fun s hs _ => by cases hs; simp only [Nat.zero_add]; exact Nat.le_of_eq hsz.symm) (.inr rfl)) rfl hP.1 (by simp) hP.2 rfl rfl rfl
        refine .mk (fun dst ty' pos after g => hex ty' dst pos after g ?_) hN.val (hN.step_add st hρ hid)
        have := hrun ty'
        rw [Nat.zero_add] at this
        rw [e1]; exact this
      · cases he
  case slice bb o n c =>
    obtain ⟨b', o', m, cap, ad, hρb, e1, hncap, hck, hop, had⟩ := h1.slice_inv
    split at he
    · rename_i h0
      simp only [Option.some.injEq, Prod.mk.injEq] at he
      exact none_case e1 hncap h0 he.1.symm he.2.symm
    · rename_i h0
      have hposn : 0 < nc.1 := by omega
      have hvl : vs.toArray.size = nc.1 * i.size := by rw [← hvs.1, hcl]
      have hvl' : vs'.toArray.size = nc.1 * i.size := by rw [← hvs'.1, hcl]
      have hex1 := hex
      rw [e1] at hex1
      -- a row that is made anew
      have grow : ∀ {l : List AV} {σ1 : Mem}, σ.cells bb o (n * i.size) = some l → Step (· = id) ρ σ w ρ σ1 w → σ1.next = σ.next → cap < n + nc.1 → (n + nc.1) * i.bytes ≤ 140737488355328 →
          ERun P η (.call { callee := .builtin .append, args := #[s, x], argTypes := (ty :: u :: us').toArray }) w ρ σ id (.slice id 0 (n + nc.1) (.op i.size)) (σ1.put id (some (.rw (l ++ nc.2)))) := by
        intro l σ1 hl hst hnx hlt hbyt
        have hsrc : srcCells σ i.size (.slice bb o n c) = some (n, l) := by simp [srcCells, hl]
        obtain ⟨_, hll, os, hof, hos⟩ := src_run (P := P) hsrc h1 (st.congr (w' := w.drew) rfl)
        rw [e1] at hof
        obtain ⟨cap2, rest, hcap2, hsz2, hrun⟩ := append_grow (w := w) (us := us') (xv := η x) hd hdu hnz hi hzv hzs hlen hlt hbyt hb0 hof hfirst' (by rw [hvl', ← hos.1, hll, ← Nat.add_mul])
        have hN : NRes id ρ w (.slice id 0 (n + nc.1) (.op i.size)) (some (.rw (l ++ nc.2))) (.slice (some ⟨w.heap.size, 0, none⟩) (n + nc.1) cap2) (w.drew.alloc (.cells (os.toArray ++ vs'.toArray ++ rest) e)) (updR ρ id (w.heap.size, 0, (os.toArray ++ vs'.toArray ++ rest).size)) := by
          have hP := PRel.append (rest := rest) hos hvs'
          exact .alloc (fz := (0, 0)) hρ (.slice updR_self hcap2 (fun k hk => by cases hk) (fun s hs _ => by cases hs; simp only [Nat.zero_add]; exact Nat.le_of_eq hsz2.symm) (.inr rfl)) rfl hP.1 (by simp) hP.2 rfl rfl rfl
        exact .mk (fun dst ty' pos after g => hex1 ty' dst pos after g (hrun ty')) hN.val (hst.trans (hN.step_add hst.st hρ (by rw [hnx]; exact hid)) (fun _ e => e) (fun _ e => e))
      cases c with
      | ex k =>
        have hk := hck k rfl
        simp only at he
        split at he
        · rename_i hle
          split at he
          · rename_i l hgl
            split at he
            · rename_i hcnd
              simp only [Option.some.injEq, Prod.mk.injEq] at he
              obtain ⟨rfl, rfl⟩ := he
              obtain ⟨hz0, cs, et, fz, hh, hP, hmm, hfz⟩ := (st.rel bb _ _ hgl hρb).rw_inv
              simp only at hz0; subst hz0
              have had := had.resolve_left (by omega)
              have hle5 : o + n * i.size + nc.2.length ≤ cs.size := by
                rw [hcl]; have h4 := hcnd.1; rw [Nat.add_mul] at h4; have := hP.1; omega
              have hlen2 : o + n * i.size + vs.length ≤ cs.size := by
                have h3 : vs.length = nc.1 * i.size := by simpa using hvl
                have h4 := hcnd.1
                rw [Nat.add_mul] at h4
                have := hP.1; omega
              obtain ⟨w', r1, r2, r3, r4, r5, r6, r7⟩ := run_storeBlock (P := P) b' (o + n * i.size) et fz vs 0 cs w hh hfz (by omega) (hvs.oneCell hcnd.2)
              rw [Nat.add_zero] at r2
              refine .mk (v' := .slice (some ad) (n + nc.1) cap) (w' := w') (ρ' := ρ) (fun dst ty' pos after g => hex1 ty' dst pos after g (append_room (us := us') hd hdu hnz hi hlen (by omega) hfirst (w2 := w') ?_ ty'))
                (.slice hρb (by omega) (fun k' hk' => by cases hk'; exact hk) (fun s hs _ => by cases hs) (.inr had))
                (.update st hgl rfl rfl hρb (.rw_mk rfl r2 (PRel.setAt _ _ _ _ _ hP hvs hle5) (by rw [setArr_size]; exact hmm) (fun i hi => hfz i (by rwa [setArr_size] at hi))) r3 r4 r5 r6 r7)
              simp only [had, add_at, Nat.zero_add]
              exact r1
            · cases he
          · cases he
        · rename_i hle
          split at he
          · rename_i hcnd
            simp only [Option.bind_eq_some_iff] at he
            obtain ⟨l, hl, he⟩ := he
            split at he
            · simp only [Option.some.injEq, Prod.mk.injEq] at he
              obtain ⟨rfl, rfl⟩ := he
              exact grow hl (.refl st) rfl (by omega) hcnd.1
            · cases he
          · cases he
      | op sz =>
        simp only at he
        split at he
        · rename_i l hgl
          split at he
          · rename_i hcnd
            obtain ⟨rfl, rfl, hll, hbyt, _, hone, hlone⟩ := hcnd
            simp only [Option.some.injEq, Prod.mk.injEq] at he
            obtain ⟨rfl, rfl⟩ := he
            obtain ⟨hz0, cs, et, fz, hh, hP, hmm, hfz⟩ := (st.rel bb _ _ hgl hρb).rw_inv
            simp only at hz0; subst hz0
            have hcells : σ.cells bb 0 (n * i.size) = some l := by
              simp only [Mem.cells, hgl, Option.bind_some, Blk.cellsR, Nat.zero_add, hll, Nat.le_refl, if_true, List.drop_zero]
              rw [← hll, List.take_length]
            by_cases hin : n + nc.1 ≤ cap
            · have had := had.resolve_left (by omega)
              have hroom : (n + nc.1) * i.size ≤ cs.size := by
                have h3 := hop i.size rfl (fun h => hcond (.inl h))
                have h4 : (n + nc.1) * i.size ≤ cap * i.size := Nat.mul_le_mul_right _ hin
                simp only at hmm; omega
              rw [Nat.add_mul] at hroom
              have hvlen : vs.length = nc.1 * i.size := by simpa using hvl
              obtain ⟨w', r1, r2, r3, r4, r5, r6, r7⟩ := run_storeBlock (P := P) b' (n * i.size) et fz vs 0 cs w hh hfz (by omega) (hvs.oneCell hone)
              rw [Nat.add_zero] at r2
              refine .mk (v' := .slice (some ad) (n + nc.1) cap) (w' := w') (ρ' := updR ρ id (b', 0, m)) (fun dst ty' pos after g => hex1 ty' dst pos after g (append_room (us := us') hd hdu hnz hi hlen hin hfirst (w2 := w') ?_ ty'))
                (.slice updR_self hin (fun k' hk' => by cases hk') (fun s hs h0 => by cases hs; have := hop i.size rfl h0; omega) (.inr (by rw [had])))
                (.recycle st hgl rfl rfl hρb hρ hid (.rw_mk rfl r2 (PRel.extend hP hvs hll (by rw [hcl]; omega)) (by rw [setArr_size]; exact hmm) (fun i hi => hfz i (by rwa [setArr_size] at hi))) r3 r4 r5 r6 r7)
              simp only [had, add_at, Nat.zero_add]
              exact r1
            · exact grow hcells (.erase st hρb) rfl (by omega) hbyt
          · cases he
        · cases he
end
end Go.Vit
