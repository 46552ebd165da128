/- Each operation that changes nothing that was there: the model's run of it stands for the abstract one. Part 6: lengths, lookups; all in one. -/
import Derived.Test.YthkehkmnfaaagaaVitH
set_option linter.unusedVariables false
set_option linter.unusedSimpArgs false
namespace Go.Vit
section
variable {P : Program} {w : World} {ρ : Ren} {σ : Mem} {t : Tmps} {η : Operand → Value} {id : Nat} {v : AV} {ob : Option Blk} {op : AOp}

theorem sameBits_int (n : Nat) (j k : IntKind) (a b : Int) : Instr.sameBits n (.int j a) (.int k b) = (j == k && a == b) := by cases n <;> rfl
theorem sameBits_string (n : Nat) (a b : ByteArray) : Instr.sameBits n (.string a) (.string b) = (a == b) := by cases n <;> rfl

/-- What the key type's tag says. -/
def KT (kk : Bool) (d : TypeDesc) : Prop := if kk then d = .string else ∃ k, d = .int k
theorem keyT_spec {kt : TypeId} {kk : Bool} (h : keyT P kt = some kk) : ∃ d, P.underlying kt = some d ∧ KT kk d := by
  unfold keyT at h
  split at h
  · rename_i k hk; cases h; exact ⟨_, hk, k, rfl⟩
  · rename_i hk; cases h; exact ⟨_, hk, rfl⟩
  · cases h

theorem keyEq_spec {kk : Bool} {d : TypeDesc} (hd : KT kk d) {x y : AV} {q : Bool} (hx1 : isKey kk x = true) (h : keyEq x y = some q) {v u : Value} (hx : VRel ρ x v) (hy : VRel ρ y u) :
    Instr.sameNow d v u = some q ∧ (q = true → ∀ n, Instr.sameBits n u v = true) := by
  unfold keyEq at h
  split at h
  · split at h
    · rename_i hkk; subst hkk; cases h; cases hx; cases hy
      cases kk <;> simp [isKey] at hx1
      obtain ⟨k', rfl⟩ := hd
      refine ⟨by simp only [Instr.sameNow]; simp, fun e n => ?_⟩
      rw [sameBits_int]; simp at e ⊢; exact e.symm
    · cases h
  · cases h; cases hx; cases hy
    cases kk <;> simp [isKey] at hx1
    obtain rfl := (by simpa [KT] using hd : d = .string)
    refine ⟨by simp only [Instr.sameNow, data_toList_eq], fun e n => ?_⟩
    rw [sameBits_string, ← data_toList_eq]
    simp only [beq_iff_eq] at e ⊢; exact e.symm
  · cases h

theorem checkKey_run {kk : Bool} {kt : TypeId} {d : TypeDesc} (hk : P.underlying kt = some d) (hd : KT kk d) {x : AV} (hx1 : isKey kk x = true) {v : Value} (hx : VRel ρ x v) (e : Bool) (n : Nat) :
    (Instr.checkKey e (n + 1) kt v).run P w = .ok () w := by
  cases kk with
  | false =>
    obtain ⟨k, rfl⟩ := hd
    cases x <;> simp [isKey] at hx1
    cases hx
    simp only [Instr.checkKey, Sem.run_bind, run_underlying hk, Result.andThen_ok, Sem.run_pure]
  | true =>
    obtain rfl := (by simpa [KT] using hd : d = .string)
    cases x <;> simp [isKey] at hx1
    cases hx
    simp only [Instr.checkKey, Sem.run_bind, run_underlying hk, Result.andThen_ok, Sem.run_pure]

/-- The entries of a map stand for the abstract ones. -/
def ERel (ρ : Ren) (es : List (AV × AV × Nat)) (xs : List MapEntry) : Prop :=
  xs.length = es.length ∧ ∀ (i : Nat) (e : AV × AV × Nat) (x : MapEntry), es[i]? = some e → xs[i]? = some x → VRel ρ e.1 x.key ∧ VRel ρ e.2.1 x.val ∧ x.born = e.2.2
theorem ERel.get {es : List (AV × AV × Nat)} {xs : List MapEntry} (h : ERel ρ es xs) {i : Nat} {e : AV × AV × Nat} (he : es[i]? = some e) : ∃ x, xs[i]? = some x ∧ VRel ρ e.1 x.key ∧ VRel ρ e.2.1 x.val ∧ x.born = e.2.2 := by
  have hi : i < es.length := (List.getElem?_eq_some_iff.1 he).1
  have hi' : i < xs.length := by rw [h.1]; exact hi
  exact ⟨xs[i], List.getElem?_eq_getElem hi', h.2 i e _ he (List.getElem?_eq_getElem hi')⟩

theorem findNow_run {kk : Bool} {d : TypeDesc} (hd : KT kk d) {x : AV} (hx1 : isKey kk x = true) {v : Value} (hx : VRel ρ x v) : ∀ (es : List (AV × AV × Nat)) (xs : List MapEntry) (r : Option Nat) (i0 : Nat), findK x es = some r → ERel ρ es xs →
    (r = none → Instr.findNow d v xs i0 = some none) ∧ ∀ i, r = some i → ∃ y, xs[i]? = some y ∧ Instr.findNow d v xs i0 = some (some (i0 + i, y.val)) ∧ ∀ n, Instr.sameBits n y.key v = true
  | [], [], r, i0, h, _ => by simp [findK] at h; subst h; exact ⟨fun _ => rfl, fun i e => by cases e⟩
  | [], _ :: _, _, _, _, hr => by have := hr.1; simp at this
  | _ :: _, [], _, _, _, hr => by have := hr.1; simp at this
  | e :: es, y :: xs, r, i0, h, hr => by
    simp only [findK, Option.bind_eq_some_iff] at h
    obtain ⟨q, hq, h⟩ := h
    obtain ⟨h1, h2, h3⟩ := hr.2 0 e y rfl rfl
    obtain ⟨k1, k2⟩ := keyEq_spec hd hx1 hq hx h1
    cases q with
    | true =>
      simp only [if_true, Option.some.injEq] at h
      subst h
      refine ⟨fun e => by (cases e), fun i e => ?_⟩
      cases e
      exact ⟨y, rfl, by simp [Instr.findNow, k1], k2 rfl⟩
    | false =>
      simp only [Bool.false_eq_true, if_false, Option.map_eq_some_iff] at h
      obtain ⟨r', hr', rfl⟩ := h
      have ih := findNow_run hd hx1 hx es xs r' (i0 + 1) hr' ⟨by have := hr.1; simpa using this, fun i e x he hx => hr.2 (i + 1) e x (by simpa using he) (by simpa using hx)⟩
      refine ⟨fun e => ?_, fun i e => ?_⟩
      · simp only [Option.map_eq_none_iff] at e
        simp only [Instr.findNow, k1]; exact ih.1 e
      · simp only [Option.map_eq_some_iff] at e
        obtain ⟨j, hj, rfl⟩ := e
        obtain ⟨z, hz, hf, hs⟩ := ih.2 j hj
        refine ⟨z, by simpa using hz, ?_, hs⟩
        simp only [Instr.findNow, k1, hf]
        congr 3; omega

theorem BRel.map_inv {p : Loc} {es : List (AV × AV × Nat)} {clock : Nat} (h : BRel ρ p w (.map es clock)) : p.2.1 = 0 ∧ ∃ xs, w.heap[p.1]? = some (.map xs clock) ∧ ERel ρ es xs.toList := by
  obtain ⟨h0, xs, h1, h2, h3⟩ := h
  refine ⟨h0, xs, h1, by simpa using h2, fun i e x he hx => ?_⟩
  obtain ⟨x', hx', a, b, c⟩ := h3 i e he
  have : x' = x := by
    rw [Array.getElem?_toList, hx'] at hx; cases hx; rfl
  subst this
  exact ⟨a, b, c⟩
theorem BRel.map_mk {p : Loc} {es : List (AV × AV × Nat)} {clock : Nat} {xs : Array MapEntry} (h0 : p.2.1 = 0) (h1 : w.heap[p.1]? = some (.map xs clock)) (h : ERel ρ es xs.toList) : BRel ρ p w (.map es clock) := by
  refine ⟨h0, xs, h1, by simpa using h.1, fun i e he => ?_⟩
  obtain ⟨x, hx, a, b, c⟩ := h.get he
  exact ⟨x, by rw [← Array.getElem?_toList]; exact hx, a, b, c⟩

theorem run_getMap {r : Nat} {xs : Array MapEntry} {clock : Nat} (h : w.heap[r]? = some (.map xs clock)) : (getObj r).run P w = .ok (.map xs clock) w := by
  simp [getObj, Sem.run, h]

theorem findKey_run {kk : Bool} {kt : TypeId} {d : TypeDesc} (hk : P.underlying kt = some d) (hd : KT kk d) {x : AV} (hx1 : isKey kk x = true) {v : Value} (hx : VRel ρ x v) {es : List (AV × AV × Nat)} {xs : List MapEntry} {r : Option Nat}
    (hf : findK x es = some r) (hr : ERel ρ es xs) : (r = none → (Instr.findKey kt v xs).run P w = .ok none w) ∧
      ∀ i, r = some i → ∃ y, xs[i]? = some y ∧ (Instr.findKey kt v xs).run P w = .ok (some (i, y.val)) w ∧ ∀ n, Instr.sameBits n y.key v = true := by
  have := findNow_run hd hx1 hx es xs r 0 hf hr
  refine ⟨fun e => ?_, fun i e => ?_⟩
  · simp only [Instr.findKey, Sem.run_bind, run_underlying hk, Result.andThen_ok, this.1 e, Sem.run_pure]
  · obtain ⟨y, hy, hfn, hs⟩ := this.2 i e
    rw [Nat.zero_add] at hfn
    exact ⟨y, hy, by simp only [Instr.findKey, Sem.run_bind, run_underlying hk, Result.andThen_ok, hfn, Sem.run_pure], hs⟩

theorem nop_lookup {ty : TypeId} {x k : Operand} {ok : Bool} (hc : compOp P (.lookup ty x k ok) = some op) (hn : nop id op t σ = some (v, ob)) (hE : HE η ρ t op.opds) (st : St ρ σ w) : NRun P η (.lookup ty x k ok) w ρ id v ob := by
  simp only [compOp, Option.bind_eq_some_iff] at hc
  obtain ⟨d, hd, a, ha, b, hb, hc⟩ := hc
  cases d <;> simp only [reduceCtorEq, Option.bind_eq_some_iff, Option.map_eq_some_iff] at hc
  rename_i kt e
  obtain ⟨kk, hkk, i, hi, zv, hzv, z, hz, rfl⟩ := hc
  obtain ⟨kd, hkd, hkt⟩ := keyT_spec hkk
  simp only [nop, Option.bind_eq_some_iff] at hn
  obtain ⟨av, hav, kv, hkv, hn⟩ := hn
  split at hn
  · cases hn
  · rename_i hkey
    have hkey : isKey kk kv = true := by simpa using hkey
    simp only [Option.bind_eq_some_iff] at hn
    obtain ⟨es, hes, r, hr, hn⟩ := hn
    have h1 := hE x a av ha (by simp [AOp.opds]) hav
    have h2 := hE k b kv hb (by simp [AOp.opds]) hkv
    have hck := fun e => checkKey_run (P := P) (w := w) hkd hkt hkey h2 e 9999
    obtain ⟨xs, hget, hER⟩ : ∃ xs : Array MapEntry, ((η x = .map none ∧ xs = #[]) ∨ ∃ b' clock, η x = .map (some b') ∧ w.heap[b']? = some (.map xs clock)) ∧ ERel ρ es xs.toList := by
      cases av <;> simp only [reduceCtorEq, Option.some.injEq, Option.bind_eq_some_iff] at hes
      case nilm => subst hes; exact ⟨#[], .inl ⟨h1.nilm_inv, rfl⟩, rfl, fun i e x he => by simp at he⟩
      case map b =>
        obtain ⟨q, hq, hes⟩ := hes
        cases q <;> simp only [reduceCtorEq, Option.some.injEq] at hes
        subst hes
        obtain ⟨b', o', _, hρb, e1⟩ := h1.map_inv
        obtain ⟨_, xs, hh, hER⟩ := (st.rel b _ _ hq hρb).map_inv
        exact ⟨xs, .inr ⟨b', _, e1, hh⟩, hER⟩
    have hfk := findKey_run (P := P) (w := w) hkd hkt hkey h2 hr hER
    cases r with
    | some i =>
      simp only [Option.bind_eq_some_iff, Option.some.injEq, Prod.mk.injEq] at hn
      obtain ⟨e', he', hv, rfl⟩ := hn
      obtain ⟨y, hy, hf, _⟩ := hfk.2 i rfl
      obtain ⟨_, hval, _⟩ := hER.2 i e' y he' hy
      refine .val (v' := if ok then .tuple #[y.val, .bool true] else y.val) (fun _ _ _ _ _ => ?_) ?_
      · have hl : (Instr.lookup ty (η x) (η k) ok).run P w = .ok (if ok then .tuple #[y.val, .bool true] else y.val) w := by
          rcases hget with ⟨e1, rfl⟩ | ⟨b', clock, e1, hh⟩
          · simp only [Instr.lookup, e1, Sem.run_bind, run_underlying hd, Result.andThen_ok, Sem.run_pure, hck, hf]
          · simp only [Instr.lookup, e1, Sem.run_bind, run_underlying hd, run_getMap hh, Result.andThen_ok, Sem.run_pure, hck, hf]
        simp only [execOp, Sem.run_bind, hl, Result.andThen_ok, Sem.run_pure]
      · subst hv
        cases ok with
        | true => exact .tup rfl (fun i a v ha hv => by
            match i with
            | 0 => simp at ha hv; subst ha; subst hv; exact hval
            | 1 => simp at ha hv; subst ha; subst hv; exact .bool true
            | i + 2 => simp at ha)
        | false => exact hval
    | none =>
      simp only [Option.some.injEq, Prod.mk.injEq] at hn
      obtain ⟨hv, rfl⟩ := hn
      have hf := hfk.1 rfl
      have hzr := ofV_rel hz ρ
      refine .val (v' := if ok then .tuple #[zv, .bool false] else zv) (fun _ _ _ _ _ => ?_) ?_
      · have hl : (Instr.lookup ty (η x) (η k) ok).run P w = .ok (if ok then .tuple #[zv, .bool false] else zv) w := by
          rcases hget with ⟨e1, rfl⟩ | ⟨b', clock, e1, hh⟩
          · simp only [Instr.lookup, e1, Sem.run_bind, run_underlying hd, Result.andThen_ok, Sem.run_pure, hck, hf, zeroValue, typeInfo, run_program, hi, hzv]
          · simp only [Instr.lookup, e1, Sem.run_bind, run_underlying hd, run_getMap hh, Result.andThen_ok, Sem.run_pure, hck, hf, zeroValue, typeInfo, run_program, hi, hzv]
        simp only [execOp, Sem.run_bind, hl, Result.andThen_ok, Sem.run_pure]
      · subst hv
        cases ok with
        | true => exact .tup rfl (fun i a v ha hv => by
            match i with
            | 0 => simp at ha hv; subst ha; subst hv; exact hzr
            | 1 => simp at ha hv; subst ha; subst hv; exact .bool false
            | i + 2 => simp at ha)
        | false => exact hzr
end
end Go.Vit
