/- Operations that change memory: the model's run of each stands for the abstract one. Part 3: maps; all in one. -/
import Derived.Test.YthkehkmnfaaagaaVitM
set_option linter.unusedVariables false
set_option linter.unusedSimpArgs false
namespace Go.Vit
section
variable {P : Program} {w : World} {ρ : Ren} {σ σ' : Mem} {t : Tmps} {η : Operand → Value} {id : Nat} {v : AV} {op : AOp}

theorem sameBits_stays {old new : Value} (h : ∀ n, Instr.sameBits n old new = true) : (Instr.keyThatStays old new).run P w = .ok new w := by
  have h1 : Instr.sameBits 10000 old new = true := h 10000
  unfold Instr.keyThatStays
  rw [if_pos h1]; rfl

theorem eop_mapUpd {o : Op} {ty : TypeId} {m k x : Operand} (ho : o = .mapUpdate ty m k x ∨ o = .insert ty m k x) (hc : compOp P o = some op) (he : eop id op t σ = some (v, σ')) (hE : HE η ρ t op.opds) (st : St ρ σ w) : ERun P η o w ρ σ id v σ' := by
  have hc' : (P.underlying ty).bind (fun d => (opd m).bind fun a => (opd k).bind fun b => (opd x).bind fun c => match d with
    | .map kt _ => (keyT P kt).map fun kk => AOp.mapUpd kk a b c
    | _ => none) = some op := by rcases ho with rfl | rfl <;> exact hc
  simp only [Option.bind_eq_some_iff] at hc'
  obtain ⟨d, hd, a, ha, b, hb, c, hcc, hc'⟩ := hc'
  cases d <;> simp only [reduceCtorEq, Option.map_eq_some_iff] at hc'
  rename_i kt e
  obtain ⟨kk, hkk, rfl⟩ := hc'
  obtain ⟨kd, hkd, hkt⟩ := keyT_spec hkk
  simp only [eop, Option.bind_eq_some_iff] at he
  obtain ⟨mv, hmv, kv, hkv, xv, hxv, he⟩ := he
  have h1 := hE m a mv ha (by simp [AOp.opds]) hmv
  have h2 := hE k b kv hb (by simp [AOp.opds]) hkv
  have h3 := hE x c xv hcc (by simp [AOp.opds]) hxv
  split at he
  · cases he
  · rename_i hkey
    have hkey : isKey kk kv = true := by simpa using hkey
    cases mv <;> simp only [reduceCtorEq] at he
    rename_i bb
    split at he
    · rename_i es clock hget
      simp only [Option.bind_eq_some_iff] at he
      obtain ⟨r, hr, he⟩ := he
      obtain ⟨b', o', mm, hρb, e1⟩ := h1.map_inv
      obtain ⟨_, xs, hh, hER⟩ := (st.rel bb _ _ hget hρb).map_inv
      have hck := checkKey_run (P := P) (w := w) hkd hkt hkey h2 false 9999
      have hfk := findKey_run (P := P) (w := w) hkd hkt hkey h2 hr hER
      have hexec : ∀ {w2 : World}, (Instr.mapUpdate ty (η m) (η k) (η x)).run P w = .ok () w2 → ∀ dst ty' pos after g, (execOp η ⟨dst, o, ty', pos, after, g⟩).run P w = .ok .skip w2 := by
        intro w2 h dst ty' pos after g
        rcases ho with rfl | rfl <;> simp only [execOp, Sem.run_bind, h, Result.andThen_ok, Sem.run_pure]
      cases r with
      | some i =>
        simp only [Option.some.injEq, Prod.mk.injEq] at he
        obtain ⟨rfl, rfl⟩ := he
        obtain ⟨y, hy, hf, hs⟩ := hfk.2 i rfl
        have hy' : xs[i]? = some y := by rw [Array.getElem?_toList] at hy; exact hy
        refine .unit (w' := { w with heap := w.heap.setIfInBounds b' (.map (xs.modify i fun e => { e with key := η k, val := η x }) clock) }) (hexec ?_) (map_update st hget hρb ?_)
        · simp only [Instr.mapUpdate, e1, Sem.run_bind, run_underlying hd, Result.andThen_ok, run_getMap hh, hck, hf, hy', Option.map_some, Option.getD_some, sameBits_stays hs, run_setMap hh]
        · exact hER.modify i _ _ (fun e x he hx => ⟨h2, h3, (hER.2 i e x he (by rw [Array.getElem?_toList]; exact hx)).2.2⟩)
      | none =>
        simp only [Option.some.injEq, Prod.mk.injEq] at he
        obtain ⟨rfl, rfl⟩ := he
        have hf := hfk.1 rfl
        refine .unit (w' := { w with heap := w.heap.setIfInBounds b' (.map (xs.push { key := η k, val := η x, born := clock }) (clock + 1)) }) (hexec ?_) (map_update st hget hρb ?_)
        · simp only [Instr.mapUpdate, e1, Sem.run_bind, run_underlying hd, Result.andThen_ok, run_getMap hh, hck, hf, run_setMap hh]
        · exact hER.push h2 h3 rfl
    · cases he

theorem eop_mapEnt {ty : TypeId} {m k : Operand} (hc : compOp P (.mapEntry ty m k) = some op) (he : eop id op t σ = some (v, σ')) (hE : HE η ρ t op.opds) (st : St ρ σ w) : ERun P η (.mapEntry ty m k) w ρ σ id v σ' := by
  simp only [compOp, Option.bind_eq_some_iff] at hc
  obtain ⟨d, hd, a, ha, b, hb, hc'⟩ := hc
  cases d <;> simp only [reduceCtorEq, Option.bind_eq_some_iff, Option.map_eq_some_iff] at hc'
  rename_i kt e
  obtain ⟨kk, hkk, ei, hei, zv, hzv, z, hz, rfl⟩ := hc'
  obtain ⟨kd, hkd, hkt⟩ := keyT_spec hkk
  simp only [eop, Option.bind_eq_some_iff] at he
  obtain ⟨mv, hmv, kv, hkv, he⟩ := he
  have h1 := hE m a mv ha (by simp [AOp.opds]) hmv
  have h2 := hE k b kv hb (by simp [AOp.opds]) hkv
  split at he
  · cases he
  · rename_i hkey
    have hkey : isKey kk kv = true := by simpa using hkey
    cases mv <;> simp only [reduceCtorEq] at he
    rename_i bb
    split at he
    · rename_i es clock hget
      simp only [Option.bind_eq_some_iff] at he
      obtain ⟨r, hr, he⟩ := he
      obtain ⟨b', o', mm, hρb, e1⟩ := h1.map_inv
      obtain ⟨_, xs, hh, hER⟩ := (st.rel bb _ _ hget hρb).map_inv
      have hck := checkKey_run (P := P) (w := w) hkd hkt hkey h2 false 9999
      have hfk := findKey_run (P := P) (w := w) hkd hkt hkey h2 hr hER
      have htup : ∀ {x : AV} {y : Value} {n : Nat}, VRel ρ x y → VRel ρ (.tup [x, .int .i64 n]) (.tuple #[y, goInt n]) := fun h => .tup rfl (fun i a v ha hv => by
        match i with
        | 0 => simp at ha hv; subst ha; subst hv; exact h
        | 1 => simp at ha hv; subst ha; subst hv; exact .int _ _
        | i + 2 => simp at ha)
      cases r with
      | some i =>
        simp only [Option.bind_eq_some_iff, Option.some.injEq, Prod.mk.injEq] at he
        obtain ⟨e', he', rfl, rfl⟩ := he
        obtain ⟨y, hy, hf, hs⟩ := hfk.2 i rfl
        have hrel := hER.2 i e' y he' hy
        rw [Array.getElem?_toList] at hy
        refine .mk (v' := .tuple #[y.val, goInt y.born]) (w' := { w with heap := w.heap.setIfInBounds b' (.map (xs.modify i fun e => { e with key := η k }) clock) }) (ρ' := ρ) (fun _ _ _ _ _ => ?_) (by rw [hrel.2.2]; exact htup hrel.2.1) (map_update st hget hρb ?_)
        · simp only [execOp, Instr.mapEntry, e1, Sem.run_bind, run_underlying hd, Result.andThen_ok, run_getMap hh, hck, hf, hy, Option.map_some, Option.getD_some, sameBits_stays hs, run_setMap hh, Sem.run_pure]
        · exact hER.modify i _ _ (fun e x he hx => by
            have := hER.2 i e x he (by rw [Array.getElem?_toList]; exact hx)
            exact ⟨h2, this.2.1, this.2.2⟩)
      | none =>
        simp only [Option.some.injEq, Prod.mk.injEq] at he
        obtain ⟨rfl, rfl⟩ := he
        have hf := hfk.1 rfl
        have hzr := ofV_rel hz ρ
        refine .mk (v' := .tuple #[zv, goInt clock]) (w' := { w with heap := w.heap.setIfInBounds b' (.map (xs.push { key := η k, val := zv, born := clock }) (clock + 1)) }) (ρ' := ρ) (fun _ _ _ _ _ => ?_) (htup hzr) (map_update st hget hρb ?_)
        · simp only [execOp, Instr.mapEntry, e1, Sem.run_bind, run_underlying hd, Result.andThen_ok, run_getMap hh, hck, hf, run_setMap hh, zeroValue, typeInfo, run_program, hei, hzv, Sem.run_pure]
        · exact hER.push h2 hzr rfl
    · cases he

theorem findIdx_rel {es : List (AV × AV × Nat)} {xs : List MapEntry} (h : ERel ρ es xs) (j : Int) : xs.findIdx? (fun e => (e.born : Int) == j) = es.findIdx? (fun e => (e.2.2 : Int) == j) := by
  have key : ∀ (es : List (AV × AV × Nat)) (xs : List MapEntry), xs.length = es.length → (∀ (i : Nat) e x, es[i]? = some e → xs[i]? = some x → x.born = e.2.2) → xs.findIdx? (fun e => (e.born : Int) == j) = es.findIdx? (fun e => (e.2.2 : Int) == j) := by
    intro es
    induction es with
    | nil => intro xs hl _; have : xs = [] := List.eq_nil_of_length_eq_zero hl; subst this; rfl
    | cons e es ih =>
      intro xs hl hb
      match xs, hl with
      | x :: xs, hl =>
        have h0 := hb 0 e x rfl rfl
        rw [List.findIdx?_cons, List.findIdx?_cons, h0, ih xs (by simpa using hl) (fun i e x he hx => hb (i + 1) e x (by simpa using he) (by simpa using hx))]
  exact key es xs h.1 (fun i e x he hx => (h.2 i e x he hx).2.2)

theorem eop_entSt {ty : TypeId} {m s x : Operand} (hc : compOp P (.entryStore ty m s x) = some op) (he : eop id op t σ = some (v, σ')) (hE : HE η ρ t op.opds) (st : St ρ σ w) : ERun P η (.entryStore ty m s x) w ρ σ id v σ' := by
  simp only [compOp, Option.bind_eq_some_iff, Option.map_eq_some_iff] at hc
  obtain ⟨a, ha, b, hb, c, hcc, rfl⟩ := hc
  simp only [eop, Option.bind_eq_some_iff] at he
  obtain ⟨mv, hmv, sv, hsv, xv, hxv, j, hj, he⟩ := he
  have h1 := hE m a mv ha (by simp [AOp.opds]) hmv
  obtain ⟨kk, e2⟩ := (hE s b sv hb (by simp [AOp.opds]) hsv).asI hj
  have h3 := hE x c xv hcc (by simp [AOp.opds]) hxv
  cases mv <;> simp only [reduceCtorEq] at he
  rename_i bb
  split at he
  · rename_i es clock hget
    simp only [Option.bind_eq_some_iff, Option.some.injEq, Prod.mk.injEq] at he
    obtain ⟨i, hi, rfl, rfl⟩ := he
    obtain ⟨b', o', mm, hρb, e1⟩ := h1.map_inv
    obtain ⟨_, xs, hh, hER⟩ := (st.rel bb _ _ hget hρb).map_inv
    have hidx : xs.findIdx? (fun e => (e.born : Int) == j) = some i := by
      have h7 := findIdx_rel hER j
      rw [hi] at h7
      rw [← h7]
      cases xs; simp
    refine .unit (w' := { w with heap := w.heap.setIfInBounds b' (.map (xs.modify i fun e => { e with val := η x }) clock) }) (fun _ _ _ _ _ => ?_) (map_update st hget hρb ?_)
    · simp only [execOp, Instr.entryStore, e1, e2, asInt, asIntOf, Sem.run_bind, run_getMap hh, Result.andThen_ok, Sem.run_pure, hidx, run_setMap hh]
    · exact hER.modify i _ _ (fun e x he hx => by
        have := hER.2 i e x he (by rw [Array.getElem?_toList]; exact hx)
        exact ⟨this.1, h3, this.2.2⟩)
  · cases he

theorem eop_del {ats : Array TypeId} {args : Array Operand} (hc : compCall P { callee := .builtin .delete, args := args, argTypes := ats } = some op) (he : eop id op t σ = some (v, σ')) (hE : HE η ρ t op.opds) (st : St ρ σ w) :
    ERun P η (.call { callee := .builtin .delete, args := args, argTypes := ats }) w ρ σ id v σ' := by
  simp only [compCall] at hc
  split at hc
  all_goals (try (rename_i heq _ _; cases heq; done))
  all_goals (try (rename_i heq _; cases heq; done))
  all_goals (try (cases hc; done))
  rename_i m k ty us _ hargs hats
  have ea := two_args hargs
  obtain ⟨us', et⟩ : ∃ us', ats = (ty :: us').toArray := ⟨us, by rw [← hats]⟩
  subst ea; subst et
  simp only [Option.bind_eq_some_iff] at hc
  obtain ⟨dd, hd, a, ha, b, hb, hc⟩ := hc
  cases dd <;> simp only [reduceCtorEq, Option.map_eq_some_iff] at hc
  rename_i kt e
  obtain ⟨kk, hkk, rfl⟩ := hc
  obtain ⟨kd, hkd, hkt⟩ := keyT_spec hkk
  simp only [eop, Option.bind_eq_some_iff] at he
  obtain ⟨mv, hmv, kv, hkv, he⟩ := he
  have h1 := hE m a mv ha (by simp [AOp.opds]) hmv
  have h2 := hE k b kv hb (by simp [AOp.opds]) hkv
  have hex : ∀ (ty' : TypeId) (dst : Option Tmp) (pos : String) (after : Array Edge) (g : Option (Nat × Bool)) {r : Value} {w2 : World}, (Builtin.delete_ (ty :: us').toArray ty' #[η m, η k]).run P w = .ok r w2 →
      (execOp η ⟨dst, .call { callee := .builtin .delete, args := #[m, k], argTypes := (ty :: us').toArray }, ty', pos, after, g⟩).run P w = .ok (.value r) w2 := by
    intro ty' dst pos after g r w2 h
    rw [exec_builtin]
    have : (#[m, k] : Array Operand).map η = #[η m, η k] := by simp
    rw [this]
    simp only [builtin, Sem.run_bind, h, Result.andThen_ok, Sem.run_pure]
  have e0 : (ty :: us').toArray[0]? = some ty := rfl
  have a0 : ∀ x y : Value, (#[x, y] : Array Value)[0]? = some x := fun _ _ => rfl
  have a1 : ∀ x y : Value, (#[x, y] : Array Value)[1]? = some y := fun _ _ => rfl
  split at he
  · cases he
  · rename_i hkey
    have hkey : isKey kk kv = true := by simpa using hkey
    have hck := fun e => checkKey_run (P := P) (w := w) hkd hkt hkey h2 e 9999
    cases mv <;> simp only [reduceCtorEq] at he
    case nilm =>
      simp only [Option.some.injEq, Prod.mk.injEq] at he
      obtain ⟨rfl, rfl⟩ := he
      refine .mk (v' := .tuple #[]) (w' := w) (ρ' := ρ) (fun dst ty' pos after g => hex ty' dst pos after g ?_) undef_rel (.refl st)
      simp only [Builtin.delete_, e0, a0, a1, h1.nilm_inv, Sem.run_bind, run_underlying hd, Result.andThen_ok, hck, Sem.run_pure]
    case map bb =>
      split at he
      · rename_i es clock hget
        simp only [Option.bind_eq_some_iff] at he
        obtain ⟨r, hr, he⟩ := he
        obtain ⟨b', o', mm, hρb, e1⟩ := h1.map_inv
        obtain ⟨_, xs, hh, hER⟩ := (st.rel bb _ _ hget hρb).map_inv
        have hfk := findKey_run (P := P) (w := w) hkd hkt hkey h2 hr hER
        cases r with
        | some i =>
          simp only [Option.some.injEq, Prod.mk.injEq] at he
          obtain ⟨rfl, rfl⟩ := he
          obtain ⟨y, hy, hf, hs⟩ := hfk.2 i rfl
          have hi : i < xs.size := by rw [Array.getElem?_toList] at hy; exact (Array.getElem?_eq_some_iff.1 hy).1
          refine .mk (v' := .tuple #[]) (w' := { w with heap := w.heap.setIfInBounds b' (.map (xs.eraseIdxIfInBounds i) clock) }) (ρ' := ρ) (fun dst ty' pos after g => hex ty' dst pos after g ?_) undef_rel (map_update st hget hρb ?_)
          · simp only [Builtin.delete_, e0, a0, a1, e1, Sem.run_bind, run_underlying hd, run_getMap hh, Result.andThen_ok, hck, hf, run_setMap hh, Sem.run_pure]
          · have h5 : (xs.eraseIdxIfInBounds i).toList = xs.toList.eraseIdx i := by simp [Array.eraseIdxIfInBounds, hi]
            rw [h5]
            refine ⟨?_, fun j e' x' he hx => ?_⟩
            · have := hER.1
              rw [List.length_eraseIdx, List.length_eraseIdx, this]
            · rw [List.getElem?_eraseIdx] at he hx
              split at he
              · rename_i hlt; rw [if_pos hlt] at hx; exact hER.2 j e' x' he hx
              · rename_i hlt; rw [if_neg hlt] at hx; exact hER.2 _ e' x' he hx
        | none =>
          simp only [Option.some.injEq, Prod.mk.injEq] at he
          obtain ⟨rfl, rfl⟩ := he
          have hf := hfk.1 rfl
          have hlt : b' < w.heap.size := (Array.getElem?_eq_some_iff.1 hh).1
          have hsame : ({ w with heap := w.heap.setIfInBounds b' (.map xs clock) } : World).heap = w.heap := by
            show w.heap.setIfInBounds b' (.map xs clock) = w.heap
            apply Array.ext_getElem?
            intro j
            by_cases hj : b' = j
            · subst hj; rw [Array.getElem?_setIfInBounds_self, if_pos hlt]; exact hh.symm
            · exact Array.getElem?_setIfInBounds_ne hj
          refine .mk (v' := .tuple #[]) (w' := { w with heap := w.heap.setIfInBounds b' (.map xs clock) }) (ρ' := ρ) (fun dst ty' pos after g => hex ty' dst pos after g ?_) undef_rel ?_
          · simp only [Builtin.delete_, e0, a0, a1, e1, Sem.run_bind, run_underlying hd, run_getMap hh, Result.andThen_ok, hck, hf, run_setMap hh, Sem.run_pure]
          · exact ⟨st.congr hsame, Nat.le_refl _, fun _ _ e => e, fun b p e e' => by rw [e] at e'; (cases e'), fun b k hk _ => ⟨k, hk, rfl⟩, fun _ _ _ => rfl, fun c _ _ => by rw [hsame], by rw [hsame]; exact Nat.le_refl _, rfl, rfl, rfl⟩
      · cases he

def opQuiet : Op → Bool
  | .store .. | .mapUpdate .. | .insert .. | .mapEntry .. | .entryStore .. | .call _ => false
  | _ => true
def Quiets (x : Option AOp) : Prop := ∀ op, x = some op → op.eff = false
theorem Quiets.none : Quiets none := fun op h => by cases h
theorem Quiets.some {op : AOp} (h : op.eff = false) : Quiets (some op) := fun o e => by cases e; exact h
theorem Quiets.bind {α : Type} {x : Option α} {f : α → Option AOp} (h : ∀ a, Quiets (f a)) : Quiets (x.bind f) := by
  cases x with
  | none => exact .none
  | some a => exact h a
theorem Quiets.map {α : Type} {x : Option α} {f : α → AOp} (h : ∀ a, (f a).eff = false) : Quiets (x.map f) := by
  cases x with
  | none => exact .none
  | some a => exact .some (h a)
theorem comp_quiet : ∀ (o : Op), opQuiet o = true → Quiets (compOp P o) := by
  intro o h
  cases o <;> simp [opQuiet] at h <;> unfold compOp
  all_goals
    try exact Quiets.none
  all_goals
    repeat' first
      | contradiction
      | exact Quiets.none
      | exact Quiets.some rfl
      | (refine Quiets.map (fun _ => ?_); rfl)
      | refine Quiets.bind (fun _ => ?_)
      | split
theorem comp_call_eff {b : Builtin} {args : Array Operand} {ats : Array TypeId} (hc : compOp P (.call { callee := .builtin b, args := args, argTypes := ats }) = some op) (he : eop id op t σ = some (v, σ')) : b = .append ∨ b = .copy ∨ b = .delete := by
  simp only [compOp, compCall] at hc
  split at hc
  · simp only [Option.bind_eq_some_iff] at hc
    obtain ⟨d, hd, a, ha, hc⟩ := hc
    cases d <;> simp only [reduceCtorEq, Option.some.injEq] at hc <;> subst hc <;> simp [eop] at he
  · exact .inl rfl
  · exact .inr (.inl rfl)
  · simp only [Option.bind_eq_some_iff, Option.some.injEq] at hc
    obtain ⟨a, ha, l, hl, rfl⟩ := hc; simp [eop] at he
  · simp only [Option.bind_eq_some_iff, Option.some.injEq] at hc
    obtain ⟨a, ha, l, hl, rfl⟩ := hc; simp [eop] at he
  · exact .inr (.inr rfl)
  · cases hc

/-- Every operation that changes memory, but a call of a function. -/
theorem eop_run {o : Op} (hc : compOp P o = some op) (he : eop id op t σ = some (v, σ')) (hE : HE η ρ t op.opds) (st : St ρ σ w) (hρ : ρ id = none) (hid : id < σ.next) (hget : σ.get id = none) : ERun P η o w ρ σ id v σ' := by
  cases o with
  | store ty a x => exact eop_store hc he hE st
  | mapUpdate ty m k x => exact eop_mapUpd (.inl rfl) hc he hE st
  | insert ty m k x => exact eop_mapUpd (.inr rfl) hc he hE st
  | mapEntry ty m k => exact eop_mapEnt hc he hE st
  | entryStore ty m s x => exact eop_entSt hc he hE st
  | call c =>
    obtain ⟨callee, args, ats⟩ := c
    cases callee with
    | builtin b =>
      cases b with
      | append => exact eop_append (s := .tmp 0) (x := .tmp 0) hc he hE st hρ hid hget
      | copy => exact eop_copy hc he hE st
      | delete => exact eop_del hc he hE st
      | _ =>
        exfalso
        have := comp_call_eff hc he
        simp at this
    | invoke r m => simp [compOp, compCall] at hc
    | value f =>
      exfalso
      cases f <;> simp only [compOp, compCall, Option.bind_eq_some_iff, Option.map_eq_some_iff] at hc
      case func f =>
        obtain ⟨fn, _, hc⟩ := hc
        split at hc
        · simp only [Option.map_eq_some_iff] at hc
          obtain ⟨l, _, rfl⟩ := hc; simp [eop] at he
        · cases hc
      all_goals
        obtain ⟨a, _, l, _, rfl⟩ := hc; simp [eop] at he
  | _ =>
    exfalso
    have h : op.eff = false := by
      refine comp_quiet (P := P) _ ?_ op hc
      rfl
    cases op <;> first
      | (simp only [eop, reduceCtorEq] at he; done)
      | (simp [AOp.eff] at h; done)
end
end Go.Vit
