/- Operations that change memory: the model's run of each stands for the abstract one. Part 2. -/
import Derived.Test.YthkehkmnfaaagaaVitL
set_option linter.unusedVariables false
set_option linter.unusedSimpArgs false
namespace Go.Vit
section
variable {P : Program} {w : World} {ρ : Ren} {σ σ' : Mem} {t : Tmps} {η : Operand → Value} {id : Nat} {v : AV} {op : AOp}

theorem first_run {size n : Nat} {xa : AV} {l : List AV} (h : (match xa with
      | .nils => some []
      | .slice b' o' _ _ => σ.cells b' o' (n * size)
      | .str s => some ((bytesOf s).take n)
      | _ => none) = some l) (hs : ∀ s, xa = .str s → size = 1 ∧ n ≤ s.size) (hn : xa = .nils → n = 0) (hle : ∀ b o k c, xa = .slice b o k c → n ≤ k) {u : Value} (hx : VRel ρ xa u) (st : St ρ σ w) :
    l.length = n * size ∧ ∃ vs : List Value, (Builtin.firstCells size n u).run P w = .ok vs.toArray w ∧ LRel ρ l vs.toArray := by
  cases xa <;> simp only [reduceCtorEq, Option.some.injEq] at h
  case nils =>
    subst h; rw [hx.nils_inv]
    exact ⟨by rw [hn rfl]; simp, [], by simp [Builtin.firstCells], LRel.nil ρ⟩
  case slice b o k c =>
    obtain ⟨b', o', _, cap, ad, hρb, e1, hncap, _, _, had⟩ := hx.slice_inv
    obtain ⟨hlen, cs, hcl, hcell, hrel⟩ := st.cells h hρb
    rw [e1]
    refine ⟨hlen, cs, ?_, .of_list (by rw [hlen, hcl]) hrel⟩
    rcases Nat.eq_zero_or_pos n with h0 | h0
    · subst h0
      rw [Nat.zero_mul] at hcl
      have : cs = [] := List.eq_nil_of_length_eq_zero hcl
      subst this; simp [Builtin.firstCells, loadCells, loadCellsFrom]
    · have := hle b o k c rfl
      have hcap : ad = ⟨b', o' + o, none⟩ := had.resolve_left (by omega)
      exact run_firstCells_some (P := P) w size n ad k cap cs hcl (fun j v hj => by rw [hcap, add_at]; exact hcell j v hj)
  case str s =>
    obtain ⟨h1, h2⟩ := hs s rfl
    subst h1; subst h
    rw [hx.str_inv]
    have h3 : s.data.size = s.size := rfl
    refine ⟨by simp [bytesOf, h3]; omega, (s.data.toList.take n).map (fun b => .int .u8 b.toNat), ?_, .of_list (by simp [bytesOf]) (fun i a v ha hv => ?_)⟩
    · simp only [Builtin.firstCells, Sem.run_pure]
      congr 1
      apply Array.ext'; simp [ByteArray.data_extract, List.map_take]
    · simp only [bytesOf, ← List.map_take, List.getElem?_map, Option.map_eq_some_iff] at ha hv
      obtain ⟨c, hc, rfl⟩ := ha
      obtain ⟨c', hc', rfl⟩ := hv
      rw [hc] at hc'; cases hc'; exact .int _ _

theorem eop_copy {ats : Array TypeId} {args : Array Operand} (hc : compCall P { callee := .builtin .copy, args := args, argTypes := ats } = some op) (he : eop id op t σ = some (v, σ')) (hE : HE η ρ t op.opds) (st : St ρ σ w) :
    ERun P η (.call { callee := .builtin .copy, args := args, argTypes := ats }) w ρ σ id v σ' := by
  simp only [compCall] at hc
  split at hc
  all_goals (try (rename_i heq _ _; cases heq; done))
  all_goals (try (rename_i heq _; cases heq; done))
  all_goals (try (cases hc; done))
  rename_i d s ty us _ hargs hats
  have ea := two_args hargs
  obtain ⟨us', et⟩ : ∃ us', ats = (ty :: us').toArray := ⟨us, by rw [← hats]⟩
  subst ea; subst et
  simp only [Option.bind_eq_some_iff] at hc
  obtain ⟨dd, hd, a, ha, b, hb, hc⟩ := hc
  cases dd <;> simp only [reduceCtorEq, Option.bind_eq_some_iff, Option.some.injEq] at hc
  rename_i e
  obtain ⟨i, hi, rfl⟩ := hc
  simp only [eop, Option.bind_eq_some_iff] at he
  obtain ⟨dv, hdv, sv, hsv, sn, hsn, he⟩ := he
  have h1 := hE d a dv ha (by simp [AOp.opds]) hdv
  have h2 := hE s b sv hb (by simp [AOp.opds]) hsv
  have hlen : ∀ w', (Builtin.lenOf (η s)).run P w' = .ok sn w' := by
    intro w'
    cases sv <;> simp only [reduceCtorEq, Option.some.injEq] at hsn
    case nils => subst hsn; rw [h2.nils_inv]; simp [Builtin.lenOf]
    case slice => subst hsn; obtain ⟨_, _, _, _, _, _, e1, _⟩ := h2.slice_inv; rw [e1]; simp [Builtin.lenOf]
    case str =>
      split at hsn
      · cases hsn; rw [h2.str_inv]; simp [Builtin.lenOf]
      · cases hsn
  have hstr : ∀ s', sv = .str s' → i.size = 1 ∧ sn = s'.size := by
    intro s' e; subst e
    simp only at hsn
    split at hsn
    · rename_i h; cases hsn; exact ⟨h, rfl⟩
    · cases hsn
  have hnil : sv = .nils → sn = 0 := by intro e; subst e; simp at hsn; exact hsn.symm
  have hsl : ∀ b o k c, sv = .slice b o k c → sn = k := by intro b o k c e; subst e; simp at hsn; exact hsn.symm
  have hex : ∀ (ty' : TypeId) (dst : Option Tmp) (pos : String) (after : Array Edge) (g : Option (Nat × Bool)) {r : Value} {w2 : World}, (Builtin.copy_ (ty :: us').toArray ty' #[η d, η s]).run P w = .ok r w2 →
      (execOp η ⟨dst, .call { callee := .builtin .copy, args := #[d, s], argTypes := (ty :: us').toArray }, ty', pos, after, g⟩).run P w = .ok (.value r) w2 := by
    intro ty' dst pos after g r w2 h
    rw [exec_builtin]
    have : (#[d, s] : Array Operand).map η = #[η d, η s] := by simp
    rw [this]
    simp only [builtin, Sem.run_bind, h, Result.andThen_ok, Sem.run_pure]
  have e0 : (ty :: us').toArray[0]? = some ty := rfl
  have a0 : ∀ x y : Value, (#[x, y] : Array Value)[0]? = some x := fun _ _ => rfl
  have a1 : ∀ x y : Value, (#[x, y] : Array Value)[1]? = some y := fun _ _ => rfl
  cases dv <;> simp only [reduceCtorEq] at he
  case nils =>
    simp only [Option.some.injEq, Prod.mk.injEq] at he
    obtain ⟨rfl, rfl⟩ := he
    have hf : (Builtin.firstCells i.size 0 (η s)).run P w = .ok #[] w := by
      cases sv <;> simp only [reduceCtorEq] at hsn
      case nils => rw [h2.nils_inv]; simp [Builtin.firstCells]
      case slice => obtain ⟨_, _, _, _, _, _, e1, _⟩ := h2.slice_inv; rw [e1]; simp [Builtin.firstCells, loadCells, loadCellsFrom]
      case str => rw [h2.str_inv]; simp [Builtin.firstCells, ByteArray.data_extract]
    refine .mk (v' := goInt 0) (w' := w) (ρ' := ρ) (fun dst ty' pos after g => hex ty' dst pos after g ?_) (.int _ _) (.refl st)
    have hm : Nat.min sn 0 = 0 := Nat.min_zero sn
    simp only [Builtin.copy_, e0, a0, a1, h1.nils_inv, Sem.run_bind, run_underlying hd, hlen, Result.andThen_ok, sizeOf, typeInfo, run_program, hi, Sem.run_pure, hm, hf]
    rfl
  case slice bb o n c =>
    simp only [Option.bind_eq_some_iff] at he
    obtain ⟨l, hl, he⟩ := he
    obtain ⟨b', o', m, cap, ad, hρb, e1, hncap, _, _, had⟩ := h1.slice_inv
    have hmin1 : Nat.min sn n ≤ sn := Nat.min_le_left _ _
    have hmin2 : Nat.min sn n ≤ n := Nat.min_le_right _ _
    obtain ⟨hll, vs, hf, hvs⟩ := first_run (P := P) (size := i.size) (n := Nat.min sn n) hl (fun s' e => ⟨(hstr s' e).1, by rw [← (hstr s' e).2]; exact hmin1⟩) (fun e => by have := hnil e; omega)
      (fun b o k c e => by rw [← hsl b o k c e]; exact hmin1) h2 st
    have hrun : ∀ {w2 : World} (ty' : TypeId), (storeCells ad vs).run P w = .ok () w2 → (Builtin.copy_ (ty :: us').toArray ty' #[η d, η s]).run P w = .ok (goInt (Nat.min sn n)) w2 := by
      intro w2 ty' h
      simp only [Builtin.copy_, e0, a0, a1, e1, Sem.run_bind, run_underlying hd, hlen, Result.andThen_ok, sizeOf, typeInfo, run_program, hi, Sem.run_pure, hf, h]
    split at he
    · rename_i h0
      simp only [Option.some.injEq, Prod.mk.injEq] at he
      obtain ⟨rfl, rfl⟩ := he
      have hv0 : vs = [] := List.eq_nil_of_length_eq_zero (by have := hvs.1; rw [hll, h0, Nat.zero_mul] at this; simpa using this.symm)
      subst hv0
      refine .mk (v' := goInt (Nat.min sn n)) (w' := w) (ρ' := ρ) (fun dst ty' pos after g => hex ty' dst pos after g (hrun ty' rfl)) (by rw [h0]; exact .int _ _) (.refl st)
    · rename_i h0
      split at he
      · rename_i cc hget
        split at he
        · rename_i hcnd
          simp only [Option.some.injEq, Prod.mk.injEq] at he
          obtain ⟨rfl, rfl⟩ := he
          obtain ⟨hz0, cs, et, fz, hh, hP, hmm, hfz⟩ := (st.rel bb _ _ hget hρb).rw_inv
          simp only at hz0; subst hz0
          have had := had.resolve_left (by omega)
          have hvl : vs.length = l.length := by have := hvs.1; simpa using this.symm
          have := hP.1
          obtain ⟨w', r1, r2, r3, r4, r5, r6, r7⟩ := run_storeBlock (P := P) b' o et fz vs 0 cs w hh hfz (by omega) (hvs.oneCell hcnd.2)
          rw [Nat.add_zero] at r2
          refine .mk (v' := goInt (Nat.min sn n)) (w' := w') (ρ' := ρ) (fun dst ty' pos after g => hex ty' dst pos after g (hrun ty' ?_)) (.int _ _)
            (.update st hget rfl rfl hρb (.rw_mk rfl r2 (PRel.setAt _ _ _ _ _ hP hvs (by omega)) (by rw [setArr_size]; exact hmm) (fun i hi => hfz i (by rwa [setArr_size] at hi))) r3 r4 r5 r6 r7)
          rw [had, Nat.zero_add]; exact r1
        · cases he
      · cases he

theorem run_setMap {r : Nat} {xs ys : Array MapEntry} {c c' : Nat} (h : w.heap[r]? = some (.map xs c)) : (setObj r (.map ys c')).run P w = .ok () { w with heap := w.heap.setIfInBounds r (.map ys c') } := by
  simp [setObj, Sem.run, h]

theorem map_update (st : St ρ σ w) {b b' o' m : Nat} {es es' : List (AV × AV × Nat)} {c c' : Nat} (hget : σ.get b = some (.map es c)) (hρb : ρ b = some (b', o', m)) {xs : Array MapEntry} (hER : ERel ρ es' xs.toList) :
    Step (· = id) ρ σ w ρ (σ.put b (some (.map es' c'))) { w with heap := w.heap.setIfInBounds b' (.map xs c') } := by
  obtain ⟨h0, ys, hh, _⟩ := (st.rel b _ _ hget hρb).map_inv
  have hlt : b' < w.heap.size := (Array.getElem?_eq_some_iff.1 hh).1
  refine .update st hget rfl rfl hρb (.map_mk h0 ?_ hER) (fun c hc => ?_) ?_ rfl rfl rfl
  · show (w.heap.setIfInBounds b' _)[b']? = _
    simp [hlt]
  · show (w.heap.setIfInBounds b' _)[c]? = _
    exact Array.getElem?_setIfInBounds_ne (fun e => hc e.symm)
  · show (w.heap.setIfInBounds b' _).size = _
    simp

theorem ERel.push {es : List (AV × AV × Nat)} {xs : Array MapEntry} (h : ERel ρ es xs.toList) {e : AV × AV × Nat} {x : MapEntry} (h1 : VRel ρ e.1 x.key) (h2 : VRel ρ e.2.1 x.val) (h3 : x.born = e.2.2) : ERel ρ (es ++ [e]) (xs.push x).toList := by
  refine ⟨by simp [h.1], fun i e' x' he hx => ?_⟩
  rw [Array.toList_push] at hx
  have hl := h.1
  by_cases hi : i < es.length
  · rw [List.getElem?_append_left hi] at he
    rw [List.getElem?_append_left (by omega)] at hx
    exact h.2 i e' x' he hx
  · have : i = es.length := by have := (List.getElem?_eq_some_iff.1 he).1; simp at this; omega
    subst this
    simp at he; subst he
    rw [← hl] at hx; simp at hx; subst hx
    exact ⟨h1, h2, h3⟩
theorem ERel.modify {es : List (AV × AV × Nat)} {xs : Array MapEntry} (h : ERel ρ es xs.toList) (i : Nat) (f : AV × AV × Nat → AV × AV × Nat) (g : MapEntry → MapEntry)
    (hf : ∀ e x, es[i]? = some e → xs[i]? = some x → VRel ρ (f e).1 (g x).key ∧ VRel ρ (f e).2.1 (g x).val ∧ (g x).born = (f e).2.2) : ERel ρ (es.modify i f) (xs.modify i g).toList := by
  refine ⟨by simp [h.1], fun j e' x' he hx => ?_⟩
  rw [Array.toList_modify] at hx
  rw [List.getElem?_modify] at he hx
  by_cases hij : i = j
  · subst hij
    simp only [if_true] at he hx
    cases e : es[i]? with
    | none => rw [e] at he; cases he
    | some e0 =>
      cases x : xs.toList[i]? with
      | none => rw [x] at hx; cases hx
      | some x0 =>
        rw [e] at he; rw [x] at hx
        cases he; cases hx
        exact hf e0 x0 e (by rw [← Array.getElem?_toList]; exact x)
  · simp only [hij, if_false] at he hx
    have he' : es[j]? = some e' := by simpa using he
    have hx' : xs.toList[j]? = some x' := by simpa using hx
    exact h.2 j e' x' he' hx'
end
end Go.Vit
