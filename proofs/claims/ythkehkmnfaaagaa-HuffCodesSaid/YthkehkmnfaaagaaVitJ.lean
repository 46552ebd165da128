/- Each operation that changes nothing that was there: the model's run of it stands for the abstract one. Part 7: builtin calls; all in one. -/
import Derived.Test.YthkehkmnfaaagaaVitI
set_option linter.unusedVariables false
set_option linter.unusedSimpArgs false
namespace Go.Vit
section
variable {P : Program} {w : World} {ρ : Ren} {σ : Mem} {t : Tmps} {η : Operand → Value} {id : Nat} {v : AV} {ob : Option Blk} {op : AOp}

/-- A builtin call's run. -/
theorem exec_builtin (b : Builtin) (args : Array Operand) (ats : Array TypeId) (dst : Option Tmp) (ty : TypeId) (pos : String) (after : Array Edge) (g : Option (Nat × Bool)) :
    execOp η ⟨dst, .call { callee := .builtin b, args := args, argTypes := ats }, ty, pos, after, g⟩ = builtin b ats ty (args.map fun | .const _ => true | _ => false) (args.map η) := rfl

theorem two_args {args : Array Operand} {x y : Operand} (h : args.toList = [x, y]) : args = #[x, y] := by cases args; simp at h; simp [h]
theorem one_arg {args : Array Operand} {x : Operand} (h : args.toList = [x]) : args = #[x] := by cases args; simp at h; simp [h]

theorem minmax_run {mx : Bool} : ∀ {l : List AV} {a r : AV}, minmaxL mx a l = some r → ∀ {u : Value} {us : List Value}, VRel ρ a u → LRel ρ l us.toArray →
    ∃ z, (us.foldlM (if mx then Builtin.max2 else Builtin.min2) u).run P w = .ok z w ∧ VRel ρ r z
  | [], a, r, h, u, us, hu, hl => by
    simp only [minmaxL, Option.some.injEq] at h; subst h
    have : us = [] := by have := hl.1; simp at this; exact List.eq_nil_of_length_eq_zero this.symm
    subst this
    exact ⟨u, by simp, hu⟩
  | b :: l, a, r, h, u, us, hu, hl => by
    simp only [minmaxL, Option.bind_eq_some_iff] at h
    obtain ⟨c, hc, h⟩ := h
    match us, hl with
    | [], hl => have := hl.1; simp at this
    | z :: us, hl =>
      have hz := hl.2 0 b z rfl (by simp)
      have hl' : LRel ρ l us.toArray := ⟨by have := hl.1; simpa using this, fun i a v ha hv => hl.2 (i + 1) a v (by simpa using ha) (by simpa using hv)⟩
      unfold minmaxV at hc
      split at hc
      · split at hc
        · rename_i hk; subst hk; cases hc
          cases hu; cases hz
          obtain ⟨q, hq, hqr⟩ := minmax_run h (.int _ _) hl'
          refine ⟨q, ?_, hqr⟩
          cases mx
          · simp only [Bool.false_eq_true, if_false] at hq ⊢
            simp only [List.foldlM_cons, Sem.run_bind, Builtin.min2, Sem.run_pure, Result.andThen_ok, hq]
          · simp only [if_true] at hq ⊢
            simp only [List.foldlM_cons, Sem.run_bind, Builtin.max2, Sem.run_pure, Result.andThen_ok, hq]
        · cases hc
      · cases hc

theorem nop_builtin {b : Builtin} {args : Array Operand} {ats : Array TypeId} (hc : compCall P { callee := .builtin b, args := args, argTypes := ats } = some op) (hne : op.eff = false) (hn : nop id op t σ = some (v, ob)) (hE : HE η ρ t op.opds) (st : St ρ σ w) :
    NRun P η (.call { callee := .builtin b, args := args, argTypes := ats }) w ρ id v ob := by
  have mk : ∀ {v' : Value}, (∀ ty, (builtin b ats ty (args.map fun | .const _ => true | _ => false) (args.map η)).run P w = .ok (.value v') w) → VRel ρ v v' → ob = none →
      NRun P η (.call { callee := .builtin b, args := args, argTypes := ats }) w ρ id v ob := by
    intro v' h1 h2 h3
    subst h3
    exact .val (v' := v') (fun _ ty _ _ _ => by rw [exec_builtin]; exact h1 ty) h2
  simp only [compCall] at hc
  split at hc
  · rename_i x ty tys hargs hats
    have ea := one_arg hargs
    obtain ⟨tys', et⟩ : ∃ tys', ats = (ty :: tys').toArray := ⟨tys, by rw [← hats]⟩
    subst ea; subst et
    simp only [Option.bind_eq_some_iff] at hc
    obtain ⟨d, hd, a, ha, hc⟩ := hc
    have e0 : (ty :: tys').toArray[0]? = some ty := rfl
    have e1 : (Array.map η #[x])[0]? = some (η x) := by simp
    cases d <;> simp only [reduceCtorEq, Option.some.injEq] at hc
    case string =>
      subst hc
      simp only [nop, Option.bind_eq_some_iff] at hn
      obtain ⟨av, hav, hn⟩ := hn
      have h1 := hE x a av ha (by simp [AOp.opds]) hav
      cases av <;> simp only [reduceCtorEq, Option.some.injEq, Prod.mk.injEq] at hn
      obtain ⟨rfl, rfl⟩ := hn
      refine mk (v' := goInt _) (fun ty => ?_) (.int _ _) rfl
      simp only [builtin, Builtin.len_, e0, e1, h1.str_inv, Sem.run_bind, run_underlying hd, Result.andThen_ok, Sem.run_pure]
    case slice e =>
      subst hc
      simp only [nop, Option.bind_eq_some_iff] at hn
      obtain ⟨av, hav, hn⟩ := hn
      have h1 := hE x a av ha (by simp [AOp.opds]) hav
      cases av <;> simp only [reduceCtorEq, Option.some.injEq, Prod.mk.injEq] at hn
      case nils =>
        obtain ⟨rfl, rfl⟩ := hn
        refine mk (v' := goInt 0) (fun ty => ?_) (.int _ _) rfl
        simp only [builtin, Builtin.len_, e0, e1, h1.nils_inv, Sem.run_bind, run_underlying hd, Result.andThen_ok, Sem.run_pure]; rfl
      case slice b o n c =>
        obtain ⟨rfl, rfl⟩ := hn
        obtain ⟨b', o', _, cap, ad, _, ex, _⟩ := h1.slice_inv
        refine mk (v' := goInt n) (fun ty => ?_) (.int _ _) rfl
        simp only [builtin, Builtin.len_, e0, e1, ex, Sem.run_bind, run_underlying hd, Result.andThen_ok, Sem.run_pure]
    case array n e =>
      subst hc
      simp only [nop, Option.some.injEq, Prod.mk.injEq] at hn
      obtain ⟨rfl, rfl⟩ := hn
      refine mk (v' := goInt n) (fun ty => ?_) (.int _ _) rfl
      simp only [builtin, Builtin.len_, e0, e1, Sem.run_bind, run_underlying hd, Result.andThen_ok, Sem.run_pure]
    case map k e =>
      subst hc
      simp only [nop, Option.bind_eq_some_iff] at hn
      obtain ⟨av, hav, hn⟩ := hn
      have h1 := hE x a av ha (by simp [AOp.opds]) hav
      cases av <;> simp only [reduceCtorEq, Option.some.injEq, Prod.mk.injEq, Option.bind_eq_some_iff] at hn
      case nilm =>
        obtain ⟨rfl, rfl⟩ := hn
        refine mk (v' := goInt 0) (fun ty => ?_) (.int _ _) rfl
        simp only [builtin, Builtin.len_, e0, e1, h1.nilm_inv, Sem.run_bind, run_underlying hd, Result.andThen_ok, Sem.run_pure]
      case map b =>
        obtain ⟨q, hq, hn⟩ := hn
        cases q <;> simp only [reduceCtorEq, Option.some.injEq, Prod.mk.injEq] at hn
        obtain ⟨rfl, rfl⟩ := hn
        obtain ⟨b', o', _, hρb, ex⟩ := h1.map_inv
        obtain ⟨_, xs, hh, hER⟩ := (st.rel b _ _ hq hρb).map_inv
        have hlen : (xs.size : Int) = _ := congrArg Int.ofNat (by simpa using hER.1)
        refine mk (v' := goInt xs.size) (fun ty => ?_) (by rw [hlen]; exact .int _ _) rfl
        simp only [builtin, Builtin.len_, e0, e1, ex, Sem.run_bind, run_underlying hd, run_getMap hh, Result.andThen_ok, Sem.run_pure]
  · simp only [Option.bind_eq_some_iff] at hc
    obtain ⟨d, hd, du, hdu, a, ha, b, hb, hc⟩ := hc
    cases d <;> simp only [reduceCtorEq, Option.bind_eq_some_iff] at hc
    obtain ⟨i, hi, hc⟩ := hc
    split at hc
    · cases hc
    · split at hc
      · cases hc
      · cases hc; simp [AOp.eff] at hne
  · simp only [Option.bind_eq_some_iff] at hc
    obtain ⟨dd, hd, a, ha, b, hb, hc⟩ := hc
    cases dd <;> simp only [reduceCtorEq, Option.bind_eq_some_iff, Option.some.injEq] at hc
    obtain ⟨i, hi, rfl⟩ := hc
    simp [AOp.eff] at hne
  · rename_i x xs hargs
    simp only [Option.bind_eq_some_iff, Option.some.injEq] at hc
    obtain ⟨a, ha, l, hl, rfl⟩ := hc
    simp only [nop, Option.bind_eq_some_iff, Option.some.injEq, Prod.mk.injEq] at hn
    obtain ⟨av, hav, vs, hvs, r, hr, rfl, rfl⟩ := hn
    have h1 := hE x a av ha (by simp [AOp.opds]) hav
    have h2 := evs_rel (P := P) (η := η) hl hvs (fun x a v hx hm hv => hE x a v hx (by simp [AOp.opds, hm]) hv)
    obtain ⟨z, hz, hzr⟩ := minmax_run (P := P) (w := w) hr h1 h2
    have ea : (args.map η).toList = η x :: xs.map η := by rw [Array.toList_map, hargs]; rfl
    refine mk (v' := z) (fun ty => ?_) hzr rfl
    simp only [Bool.false_eq_true, if_false] at hz
    simp only [builtin, Builtin.min_, ea, Sem.run_bind, hz, Result.andThen_ok, Sem.run_pure]
  · rename_i x xs hargs
    simp only [Option.bind_eq_some_iff, Option.some.injEq] at hc
    obtain ⟨a, ha, l, hl, rfl⟩ := hc
    simp only [nop, Option.bind_eq_some_iff, Option.some.injEq, Prod.mk.injEq] at hn
    obtain ⟨av, hav, vs, hvs, r, hr, rfl, rfl⟩ := hn
    have h1 := hE x a av ha (by simp [AOp.opds]) hav
    have h2 := evs_rel (P := P) (η := η) hl hvs (fun x a v hx hm hv => hE x a v hx (by simp [AOp.opds, hm]) hv)
    obtain ⟨z, hz, hzr⟩ := minmax_run (P := P) (w := w) hr h1 h2
    have ea : (args.map η).toList = η x :: xs.map η := by rw [Array.toList_map, hargs]; rfl
    refine mk (v' := z) (fun ty => ?_) hzr rfl
    simp only [if_true] at hz
    simp only [builtin, Builtin.max_, ea, Sem.run_bind, hz, Result.andThen_ok, Sem.run_pure]
  · simp only [Option.bind_eq_some_iff] at hc
    obtain ⟨d, hd, a, ha, b, hb, hc⟩ := hc
    cases d <;> simp only [reduceCtorEq, Option.map_eq_some_iff] at hc
    obtain ⟨kk, hkk, rfl⟩ := hc
    simp [AOp.eff] at hne
  · cases hc

/-- Every operation that changes nothing that was there. -/
theorem nop_run {o : Op} (hc : compOp P o = some op) (hne : op.eff = false) (hn : nop id op t σ = some (v, ob)) (hE : HE η ρ t op.opds) (st : St ρ σ w) (hρ : ρ id = none) : NRun P η o w ρ id v ob := by
  cases o with
  | move x => exact nop_mov _ (.inl rfl) hc hn hE
  | assign x => exact nop_mov _ (.inr rfl) hc hn hE
  | pick c a b => exact nop_pick hc hn hE
  | alloc e => exact nop_alloc hc hn hρ
  | box e x => exact nop_box hc hn hE hρ
  | build ty ps => exact nop_build hc hn hE
  | buildSlice ty n ps => exact nop_newSlice hc hn hE hρ
  | load ty x => exact nop_load hc hn hE st
  | nilCheck x => exact nop_nilchk hc hn hE
  | binOp b ty x y yt => exact nop_bin hc hn hE
  | unOp b ty x => exact nop_un hc hn hE
  | convert s d x => exact nop_conv hc hn hE st hρ
  | makeFunc fn f c => exact nop_mkFn hc hn hE
  | makeMap ty r => exact nop_mkMap hc hn hρ
  | makeSlice ty n c => exact nop_make hc hn hE hρ
  | slice ty x lo hi mx => exact nop_slice hc hn hE
  | fieldAddr ty x f => exact nop_faddr hc hn hE
  | field ty x f => exact nop_field hc hn hE
  | indexAddr ty x i => exact nop_iaddr hc hn hE
  | index ty x i => exact nop_index hc hn hE
  | lookup ty x k ok => exact nop_lookup hc hn hE st
  | extract x i => exact nop_extract hc hn hE
  | call c =>
    obtain ⟨callee, args, ats⟩ := c
    cases callee with
    | builtin b => exact nop_builtin hc hne hn hE st
    | invoke r m => simp [compOp, compCall] at hc
    | value f =>
      exfalso
      cases f <;> simp only [compOp, compCall, Option.bind_eq_some_iff, Option.map_eq_some_iff] at hc
      case func f =>
        obtain ⟨fn, _, hc⟩ := hc
        split at hc
        · simp only [Option.map_eq_some_iff] at hc
          obtain ⟨l, _, rfl⟩ := hc; simp [AOp.eff] at hne
        · cases hc
      all_goals
        obtain ⟨a, _, l, _, rfl⟩ := hc; simp [AOp.eff] at hne
  | store ty a x =>
    exfalso
    simp only [compOp, Option.bind_eq_some_iff, Option.map_eq_some_iff] at hc
    obtain ⟨i, _, a, _, x, _, rfl⟩ := hc; simp [AOp.eff] at hne
  | mapUpdate ty m k x =>
    exfalso
    simp only [compOp, Option.bind_eq_some_iff] at hc
    obtain ⟨d, _, a, _, b, _, c, _, hc⟩ := hc
    cases d <;> simp only [reduceCtorEq, Option.map_eq_some_iff] at hc
    obtain ⟨kk, _, rfl⟩ := hc; simp [AOp.eff] at hne
  | insert ty m k x =>
    exfalso
    simp only [compOp, Option.bind_eq_some_iff] at hc
    obtain ⟨d, _, a, _, b, _, c, _, hc⟩ := hc
    cases d <;> simp only [reduceCtorEq, Option.map_eq_some_iff] at hc
    obtain ⟨kk, _, rfl⟩ := hc; simp [AOp.eff] at hne
  | mapEntry ty m k =>
    exfalso
    simp only [compOp, Option.bind_eq_some_iff] at hc
    obtain ⟨d, _, a, _, b, _, hc⟩ := hc
    cases d <;> simp only [reduceCtorEq, Option.map_eq_some_iff, Option.bind_eq_some_iff] at hc
    obtain ⟨kk, _, i, _, z, _, z', _, rfl⟩ := hc; simp [AOp.eff] at hne
  | entryStore ty m s x =>
    exfalso
    simp only [compOp, Option.bind_eq_some_iff, Option.map_eq_some_iff] at hc
    obtain ⟨a, _, b, _, c, _, rfl⟩ := hc; simp [AOp.eff] at hne
  | _ => simp [compOp] at hc
end
end Go.Vit
