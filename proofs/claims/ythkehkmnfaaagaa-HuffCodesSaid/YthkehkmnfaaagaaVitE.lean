/- Each operation that changes nothing that was there: the model's run of it stands for the abstract one. Part 2: the operations. -/
import Derived.Test.YthkehkmnfaaagaaVitD
import Derived.Laws.MakeOwn
import Derived.Laws.IdiomStrings
import Derived.Laws.BytesString
import Derived.Carry
import Derived.Laws.IdiomCopy
set_option linter.unusedVariables false
set_option linter.unusedSimpArgs false
namespace Go.Vit

def HE (η : Operand → Value) (ρ : Ren) (t : Tmps) (as : List AOpd) : Prop := ∀ x a v, opd x = some a → a ∈ as → a.ev t = some v → VRel ρ v (η x)
theorem HE.sub {η : Operand → Value} {ρ : Ren} {t : Tmps} {as bs : List AOpd} (h : HE η ρ t as) (hs : ∀ a, a ∈ bs → a ∈ as) : HE η ρ t bs := fun x a v hx hm hv => h x a v hx (hs a hm) hv

def NRun (P : Program) (η : Operand → Value) (o : Op) (w : World) (ρ : Ren) (id : Nat) (v : AV) (ob : Option Blk) : Prop :=
  ∀ (dst : Option Tmp) (ty : TypeId) (pos : String) (after : Array Edge) (g : Option (Nat × Bool)),
    ∃ v' w' ρ', (execOp η ⟨dst, o, ty, pos, after, g⟩).run P w = .ok (.value v') w' ∧ NRes id ρ w v ob v' w' ρ'

section
variable {P : Program} {w : World} {ρ : Ren} {σ : Mem} {t : Tmps} {η : Operand → Value} {id : Nat} {v : AV} {ob : Option Blk} {op : AOp}

theorem NRun.val {o : Op} {v' : Value} (hr : ∀ dst ty pos after g, (execOp η ⟨dst, o, ty, pos, after, g⟩).run P w = .ok (.value v') w) (h : VRel ρ v v') : NRun P η o w ρ id v none :=
  fun dst ty pos after g => ⟨v', w, ρ, hr dst ty pos after g, .same h⟩
theorem NRun.mk {o : Op} {v' : Value} {w' : World} {ρ' : Ren} (hr : ∀ dst ty pos after g, (execOp η ⟨dst, o, ty, pos, after, g⟩).run P w = .ok (.value v') w') (h : NRes id ρ w v ob v' w' ρ') : NRun P η o w ρ id v ob :=
  fun dst ty pos after g => ⟨v', w', ρ', hr dst ty pos after g, h⟩

theorem add_plain (a : Addr) (ha : a.spot = none) (j : Nat) : a.add j = ⟨a.block, a.off + j, none⟩ := by
  unfold Addr.add; split
  · cases a; simp at ha; subst ha; simp_all
  · rfl

theorem zeroOf_spec {e : TypeId} {z : List AV} (h : zeroOf P e = some z) : ∃ i zv, P.info? e = some i ∧ i.zero = some zv ∧ (∀ ρ : Ren, LRel ρ z zv.cells) ∧ z.all AV.one = true := by
  simp only [zeroOf, Option.bind_eq_some_iff] at h
  obtain ⟨i, hi, zv, hz, h⟩ := h
  exact ⟨i, zv, hi, hz, fun ρ => by have := ofVs_rel h ρ; simpa using this, (ofVs_one h).1⟩

theorem shapeOf_spec {ty : TypeId} {k : Option Nat} (h : shapeOf P ty = some k) : ∃ i, P.info? ty = some i ∧ (∀ w, (isAgg ty).run P w = .ok k.isSome w) ∧ (∀ n, k = some n → i.size = n) := by
  simp only [shapeOf, Option.bind_eq_some_iff] at h
  obtain ⟨d, hd, i, hi, h⟩ := h
  refine ⟨i, hi, fun w => ?_, fun n hn => ?_⟩
  · cases d <;> simp at h <;> subst h <;> simp [isAgg, run_underlying hd]
  · cases d <;> simp at h <;> subst h <;> simp at hn <;> exact hn

theorem part_rel {ty : TypeId} {k : Option Nat} (hk : shapeOf P ty = some k) {l : List AV} {cs : Array Value} (h : LRel ρ l cs) {off : Nat} {r : AV} (hr : partA l off k = some r) :
    ∃ v, (part ty cs off).run P w = .ok v w ∧ VRel ρ r v := by
  obtain ⟨i, hi, hagg, hsz⟩ := shapeOf_spec hk
  cases k with
  | none =>
    simp only [partA] at hr
    obtain ⟨v, hv, hrel⟩ := h.get hr
    exact ⟨v, by simp [part, hagg, hv], hrel⟩
  | some n =>
    simp only [partA] at hr
    split at hr
    · cases hr
      rename_i hle
      refine ⟨.agg (cs.extract off (off + n)), by simp [part, hagg, sizeOf, typeInfo, hi, hsz n rfl], ?_⟩
      have := h.extract off (off + n)
      rw [Nat.add_sub_cancel_left] at this
      exact .agg this.1 this.2
    · cases hr

theorem setAt_rel : ∀ (vc : List AV) (vs : List Value) (l : List AV) (cs : Array Value) (off k : Nat), LRel ρ l cs → vc.length = vs.length →
    (∀ (i : Nat) (a : AV) (v : Value), vc[i]? = some a → vs[i]? = some v → VRel ρ a v) → LRel ρ (setAt l (off + k) vc) ((vs.zipIdx k).foldl (fun cs p => cs.setIfInBounds (off + p.2) p.1) cs)
  | [], [], l, cs, off, k, h, _, _ => h
  | [], _ :: _, _, _, _, _, _, hl, _ => by simp at hl
  | _ :: _, [], _, _, _, _, _, hl, _ => by simp at hl
  | a :: vc, v :: vs, l, cs, off, k, h, hl, hr => by
    simp only [setAt, List.zipIdx_cons, List.foldl_cons]
    have h1 : LRel ρ (l.set (off + k) a) (cs.setIfInBounds (off + k) v) := by
      refine ⟨by simp [h.1], fun i x y hx hy => ?_⟩
      by_cases hi : off + k = i
      · subst hi
        rw [List.getElem?_set_self' ] at hx
        rw [Array.getElem?_setIfInBounds_self] at hy
        split at hy
        · cases hy
          cases e : l[off + k]? with
          | none => rw [e] at hx; cases hx
          | some z => rw [e] at hx; cases hx; exact hr 0 a v rfl rfl
        · cases hy
      · rw [List.getElem?_set_ne hi] at hx
        rw [Array.getElem?_setIfInBounds_ne hi] at hy
        exact h.2 i x y hx hy
    have := setAt_rel vc vs _ _ off (k + 1) h1 (by simpa using hl) (fun i x y hx hy => hr (i + 1) x y (by simpa using hx) (by simpa using hy))
    rw [← Nat.add_assoc] at this
    exact this
theorem setAt_length : ∀ (vc l : List AV) (off : Nat), (setAt l off vc).length = l.length
  | [], _, _ => rfl
  | a :: vc, l, off => by simp [setAt, setAt_length vc]
theorem setAt_one : ∀ (vc l : List AV) (off : Nat), l.all AV.one = true → vc.all AV.one = true → (setAt l off vc).all AV.one = true
  | [], _, _, h, _ => h
  | a :: vc, l, off, h, h' => by
    simp only [List.all_cons, Bool.and_eq_true] at h'
    refine setAt_one vc _ _ ?_ h'.2
    rw [List.all_eq_true] at h ⊢
    intro x hx
    rcases List.mem_or_eq_of_mem_set hx with hx | rfl
    · exact h x hx
    · exact h'.1
theorem fillA_one : ∀ {ps : List (Nat × Nat × AOpd)} {z l : List AV}, fillA t z ps = some l → z.all AV.one = true → l.all AV.one = true
  | [], z, l, h, hz => by simp [fillA] at h; subst h; exact hz
  | (off, size, x) :: ps, z, l, h, hz => by
    simp only [fillA, Option.bind_eq_some_iff] at h
    obtain ⟨v, hv, h⟩ := h
    split at h
    · rename_i hc; exact fillA_one h (setAt_one _ _ _ hz hc.2.2)
    · cases h

theorem fill_rel (place : Nat → Option (Nat × Nat)) : ∀ (ps : List (Nat × Operand)) (as : List (Nat × Nat × AOpd)) (z l : List AV) (zc : Array Value),
    (as.length = ps.length ∧ ∀ (i : Nat) p a, ps[i]? = some p → as[i]? = some a → place p.1 = some (a.1, a.2.1) ∧ opd p.2 = some a.2.2) →
    fillA t z as = some l → LRel ρ z zc → HE η ρ t (as.map fun p => p.2.2) → ∃ cs, Instr.fill place zc (ps.map fun p => (p.1, η p.2)) = some cs ∧ LRel ρ l cs
  | [], [], z, l, zc, _, h, hz, _ => by simp [fillA] at h; subst h; exact ⟨zc, rfl, hz⟩
  | [], _ :: _, _, _, _, hp, _, _, _ => by simp at hp
  | _ :: _, [], _, _, _, hp, _, _, _ => by simp at hp
  | (i, x) :: ps, (off, size, a) :: as, z, l, zc, hp, h, hz, hE => by
    obtain ⟨hpl, hpx⟩ := hp.2 0 (i, x) (off, size, a) rfl rfl
    simp only [fillA, Option.bind_eq_some_iff] at h
    obtain ⟨v, hv, h⟩ := h
    split at h
    · rename_i hc
      have hvr := hE x a v hpx (by simp) hv
      have hcl := hvr.cells
      simp only [List.map_cons, Instr.fill, hpl]
      rw [if_neg (by rw [← hcl.1, ← hz.1]; simp; omega)]
      have hs : LRel ρ (setAt z off v.cells) ((η x).cells.zipIdx.foldl (fun cs p => cs.setIfInBounds (off + p.2) p.1) zc) := by
        have := setAt_rel v.cells (η x).cells.toList z zc off 0 hz (by simpa using hcl.1) (fun i a v ha hv => hcl.2 i a v ha (by simpa using hv))
        rw [← Array.foldl_toList, Array.toList_zipIdx]
        exact this
      exact fill_rel place ps as _ l _ ⟨by simpa using hp.1, fun i p a hi ha => hp.2 (i + 1) p a (by simpa using hi) (by simpa using ha)⟩ h hs (hE.sub fun a ha => List.mem_cons_of_mem _ ha)
    · cases h

theorem partsF_spec {pl : List (Nat × Nat)} : ∀ {ps : List (Nat × Operand)} {as : List (Nat × Nat × AOpd)}, partsF pl ps = some as →
    as.length = ps.length ∧ ∀ (i : Nat) p a, ps[i]? = some p → as[i]? = some a → pl[p.1]? = some (a.1, a.2.1) ∧ opd p.2 = some a.2.2
  | [], as, h => by simp [partsF] at h; subst h; exact ⟨rfl, fun i p a h => by simp at h⟩
  | (j, x) :: ps, as, h => by
    simp only [partsF, Option.bind_eq_some_iff] at h
    obtain ⟨q, hq, a, ha, l, hl, e⟩ := h
    cases e
    have ih := partsF_spec hl
    refine ⟨by simp [ih.1], fun i p b hp hb => ?_⟩
    cases i with
    | zero => simp at hp hb; subst hp; subst hb; exact ⟨hq, ha⟩
    | succ i => exact ih.2 i p b (by simpa using hp) (by simpa using hb)
theorem partsA_spec {size : Nat} : ∀ {ps : List (Nat × Operand)} {as : List (Nat × Nat × AOpd)}, partsA size ps = some as →
    as.length = ps.length ∧ ∀ (i : Nat) p a, ps[i]? = some p → as[i]? = some a → (some (p.1 * size, size) : Option (Nat × Nat)) = some (a.1, a.2.1) ∧ opd p.2 = some a.2.2
  | [], as, h => by simp [partsA] at h; subst h; exact ⟨rfl, fun i p a h => by simp at h⟩
  | (j, x) :: ps, as, h => by
    simp only [partsA, Option.bind_eq_some_iff] at h
    obtain ⟨a, ha, l, hl, e⟩ := h
    cases e
    have ih := partsA_spec hl
    refine ⟨by simp [ih.1], fun i p b hp hb => ?_⟩
    cases i with
    | zero => simp at hp hb; subst hp; subst hb; exact ⟨rfl, ha⟩
    | succ i => exact ih.2 i p b (by simpa using hp) (by simpa using hb)

theorem places_run : ∀ {fs : List Field} {pl : List (Nat × Nat)}, places P fs = some pl → (fs.mapM (fun (f : Field) => (do let s ← sizeOf f.type; pure (f.offset, s) : Sem (Nat × Nat)))).run P w = .ok pl w
  | [], pl, h => by simp [places] at h; subst h; simp
  | f :: fs, pl, h => by
    simp only [places, Option.bind_eq_some_iff] at h
    obtain ⟨i, hi, l, hl, e⟩ := h
    cases e
    have ih := places_run hl
    simp only [List.mapM_cons, sizeOf, typeInfo, Sem.run_bind, run_program, Result.andThen_ok, hi, Sem.run_pure] at ih ⊢
    rw [ih]; rfl

theorem nop_build {ty : TypeId} {ps : Array (Nat × Operand)} (hc : compOp P (.build ty ps) = some op) (hn : nop id op t σ = some (v, ob)) (hE : HE η ρ t op.opds) : NRun P η (.build ty ps) w ρ id v ob := by
  simp only [compOp, Option.bind_eq_some_iff] at hc
  obtain ⟨d, hd, z, hz, hc⟩ := hc
  obtain ⟨i, zv, hi, hzv, hzr, hz1⟩ := zeroOf_spec hz
  have hmap : ∀ l : List (Nat × Operand), (l.toArray.map fun p => (p.1, η p.2)).toList = l.map fun p => (p.1, η p.2) := by intro l; simp
  cases d <;> simp only [Option.bind_eq_some_iff, Option.map_eq_some_iff] at hc
  case struct fs =>
    obtain ⟨pl, hpl, as, has, rfl⟩ := hc
    simp only [nop, Option.bind_eq_some_iff, Option.some.injEq, Prod.mk.injEq] at hn
    obtain ⟨l, hl, rfl, rfl⟩ := hn
    obtain ⟨cs, hf, hr⟩ := fill_rel (η := η) (fun i => pl.toArray[i]?) ps.toList as z l zv.cells ⟨(partsF_spec has).1, fun i p a hp ha => by simpa using (partsF_spec has).2 i p a hp ha⟩ hl (hzr ρ) hE
    refine .val (v' := .agg cs) (fun _ _ _ _ _ => ?_) (.agg hr.1 hr.2)
    have hm : (fs.mapM fun f => (do let s ← sizeOf f.type; pure (f.offset, s) : Sem (Nat × Nat))).run P w = .ok pl.toArray w := by
      rw [Array.mapM_eq_mapM_toList, Sem.run_map, places_run hpl]; rfl
    have hm' : (ps.map fun (i, x) => (i, η x)).toList = ps.toList.map fun p => (p.1, η p.2) := by simp
    simp only [execOp, Instr.build, Sem.run_bind, zeroValue, typeInfo, run_program, hi, hzv, Result.andThen_ok, Sem.run_pure, run_underlying hd, hm, hm', hf]
  case array n e =>
    obtain ⟨i', hi', as, has, rfl⟩ := hc
    simp only [nop, Option.bind_eq_some_iff, Option.some.injEq, Prod.mk.injEq] at hn
    obtain ⟨l, hl, rfl, rfl⟩ := hn
    obtain ⟨cs, hf, hr⟩ := fill_rel (η := η) (fun i => some (i * i'.size, i'.size)) ps.toList as z l zv.cells ⟨(partsA_spec has).1, fun i p a hp ha => (partsA_spec has).2 i p a hp ha⟩ hl (hzr ρ) hE
    refine .val (v' := .agg cs) (fun _ _ _ _ _ => ?_) (.agg hr.1 hr.2)
    have hm' : (ps.map fun (i, x) => (i, η x)).toList = ps.toList.map fun p => (p.1, η p.2) := by simp
    simp only [execOp, Instr.build, Sem.run_bind, zeroValue, sizeOf, typeInfo, run_program, hi, hi', hzv, Result.andThen_ok, Sem.run_pure, run_underlying hd, hm', hf]
  all_goals cases hc
end
end Go.Vit
