/- Each operation that changes nothing that was there: the model's run of it stands for the abstract one. Part 5: slicing, addresses, lookups. -/
import Derived.Test.YthkehkmnfaaagaaVitG
set_option linter.unusedVariables false
set_option linter.unusedSimpArgs false
namespace Go.Vit
section
variable {P : Program} {w : World} {ρ : Ren} {σ : Mem} {t : Tmps} {η : Operand → Value} {id : Nat} {v : AV} {ob : Option Blk} {op : AOp}

theorem add_at (b o j : Nat) : (⟨b, o, none⟩ : Addr).add j = ⟨b, o + j, none⟩ := add_plain _ rfl j

theorem bnd_run {q : AV} {u : Value} (h : VRel ρ q u) {c m y : Nat} (hb : bnd q c = some m) (hy : c ≤ y) : m ≤ c ∧ ∀ code, (Instr.sliceBound u y code).run P w = .ok m w := by
  simp only [bnd, Option.bind_eq_some_iff] at hb
  obtain ⟨i, hi, hb⟩ := hb
  split at hb
  · rename_i hc
    cases hb
    obtain ⟨k, rfl⟩ := h.asI hi
    have h2 : i ≤ (y : Int) := by omega
    exact ⟨by omega, fun code => by simp [Instr.sliceBound, asIntOf, hc.1, h2]⟩
  · cases hb

theorem sliceBounds_run {isS : Bool} {n capA cap : Nat} {lo hi mx : Option Operand} {l h m : Option AV} {r : Nat × Nat × Nat} (hr : sliceBoundsA n capA l h m = some r) (hn : n ≤ capA) (hcap : capA ≤ cap)
    (hl : (lo = none ∧ l = none) ∨ ∃ y q, lo = some y ∧ l = some q ∧ VRel ρ q (η y)) (hh : (hi = none ∧ h = none) ∨ ∃ y q, hi = some y ∧ h = some q ∧ VRel ρ q (η y))
    (hm : (mx = none ∧ m = none) ∨ ∃ y q, mx = some y ∧ m = some q ∧ VRel ρ q (η y)) :
    (Instr.sliceBounds isS n cap (lo.map η) (hi.map η) (mx.map η)).run P w = .ok (r.1, r.2.1, if m.isSome then r.2.2 else cap) w ∧ r.1 ≤ r.2.1 ∧ r.2.1 ≤ r.2.2 ∧ r.2.2 ≤ capA ∧ (m = none → r.2.2 = capA) := by
  simp only [sliceBoundsA, Option.bind_eq_some_iff] at hr
  obtain ⟨mm, hmm, hv, hhv, lv, hlv, e⟩ := hr
  cases e
  rcases hm with ⟨rfl, rfl⟩ | ⟨y3, q3, rfl, rfl, hq3⟩
  · simp only [Option.some.injEq] at hmm
    subst hmm
    rcases hh with ⟨rfl, rfl⟩ | ⟨y2, q2, rfl, rfl, hq2⟩
    · simp only [Option.isSome_none, Bool.false_eq_true, if_false, Option.some.injEq] at hhv
      subst hhv
      rcases hl with ⟨rfl, rfl⟩ | ⟨y1, q1, rfl, rfl, hq1⟩
      · simp only [Option.some.injEq] at hlv
        subst hlv
        exact ⟨by simp [Instr.sliceBounds], Nat.zero_le _, hn, Nat.le_refl _, fun _ => rfl⟩
      · have r1 := bnd_run (P := P) (w := w) hq1 hlv (Nat.le_refl _)
        exact ⟨by simp [Instr.sliceBounds, r1.2], r1.1, hn, Nat.le_refl _, fun _ => rfl⟩
    · have r2 := bnd_run (P := P) (w := w) hq2 hhv hcap
      rcases hl with ⟨rfl, rfl⟩ | ⟨y1, q1, rfl, rfl, hq1⟩
      · simp only [Option.some.injEq] at hlv
        subst hlv
        exact ⟨by simp [Instr.sliceBounds, r2.2], Nat.zero_le _, r2.1, Nat.le_refl _, fun _ => rfl⟩
      · have r1 := bnd_run (P := P) (w := w) hq1 hlv (Nat.le_refl _)
        exact ⟨by simp [Instr.sliceBounds, r1.2, r2.2], r1.1, r2.1, Nat.le_refl _, fun _ => rfl⟩
  · have r3 := bnd_run (P := P) (w := w) hq3 hmm hcap
    rcases hh with ⟨rfl, rfl⟩ | ⟨y2, q2, rfl, rfl, hq2⟩
    · simp at hhv
    · have r2 := bnd_run (P := P) (w := w) hq2 hhv (Nat.le_refl _)
      rcases hl with ⟨rfl, rfl⟩ | ⟨y1, q1, rfl, rfl, hq1⟩
      · simp only [Option.some.injEq] at hlv
        subst hlv
        exact ⟨by simp [Instr.sliceBounds, r2.2, r3.2], Nat.zero_le _, r2.1, r3.1, fun e => by cases e⟩
      · have r1 := bnd_run (P := P) (w := w) hq1 hlv (Nat.le_refl _)
        exact ⟨by simp [Instr.sliceBounds, r1.2, r2.2, r3.2], r1.1, r2.1, r3.1, fun e => by cases e⟩

theorem opdo_none {x : Option Operand} {a : Option AOpd} (h : opdo x = some a) (ha : ¬ a.isSome = true) : x = none := by
  cases x with
  | none => rfl
  | some y =>
    simp only [opdo, Option.map_eq_some_iff] at h
    obtain ⟨b, _, rfl⟩ := h
    simp at ha

theorem nop_slice {ty : TypeId} {x : Operand} {lo hi mx : Option Operand} (hc : compOp P (.slice ty x lo hi mx) = some op) (hn : nop id op t σ = some (v, ob)) (hE : HE η ρ t op.opds) : NRun P η (.slice ty x lo hi mx) w ρ id v ob := by
  simp only [compOp, Option.bind_eq_some_iff] at hc
  obtain ⟨d, hd, a, ha, l', hl', h', hh', m', hm', hc⟩ := hc
  have arr : ∀ (n e : Nat) (i : TypeInfo), P.info? e = some i → op = .slArr n i.size a l' h' → mx = none → (∀ ad : Addr, ∀ r : Nat × Nat × Nat, (Instr.sliceBounds false n n (lo.map η) (hi.map η) none).run P w = .ok r w →
      (Instr.sliceAt ty (.pointer (some ad)) (lo.map η) (hi.map η) none).run P w = .ok (.slice (some (if r.2.2 = r.1 then ad else ad.add (r.1 * i.size))) (r.2.1 - r.1) (r.2.2 - r.1)) w) → NRun P η (.slice ty x lo hi mx) w ρ id v ob := by
    intro n e i hi' hop hmx hsl
    subst hop; subst hmx
    simp only [nop, Option.bind_eq_some_iff] at hn
    obtain ⟨av, hav, lv, hlv, hv, hhv, hn⟩ := hn
    have h1 := hE x a av ha (by simp [AOp.opds]) hav
    have k1 := opdo_run hl' hlv (as := (AOp.slArr n i.size a l' h').opds) (fun y hy => by simp [AOp.opds, hy]) hE
    have k2 := opdo_run hh' hhv (as := (AOp.slArr n i.size a l' h').opds) (fun y hy => by simp [AOp.opds, hy]) hE
    cases av <;> simp only [reduceCtorEq] at hn
    rename_i b o
    simp only [Option.bind_eq_some_iff, Option.some.injEq, Prod.mk.injEq] at hn
    obtain ⟨r, hr, rfl, rfl⟩ := hn
    obtain ⟨b', o', _, hρb, e1⟩ := h1.ptr_inv
    obtain ⟨hrun, h01, h02, h03, h04⟩ := sliceBounds_run (P := P) (w := w) (isS := false) hr (Nat.le_refl _) (Nat.le_refl _) k1 k2 (mx := none) (.inl ⟨rfl, rfl⟩)
    have := hsl ⟨b', o' + o, none⟩ _ hrun
    simp only [Option.isSome_none, Bool.false_eq_true, if_false] at this
    refine .val (v' := .slice (some (if n = r.1 then ⟨b', o' + o, none⟩ else (⟨b', o' + o, none⟩ : Addr).add (r.1 * i.size))) (r.2.1 - r.1) (n - r.1)) (fun _ _ _ _ _ => by simp only [execOp, e1, Option.map_none, Sem.run_bind, this, Result.andThen_ok, Sem.run_pure]) ?_
    have h05 := h04 rfl
    by_cases heq : n = r.1
    · rw [if_pos heq]
      exact .slice (o' := o') hρb (by omega) (fun k hk => by cases hk; rfl) (fun s hs _ => by cases hs) (.inl (by omega))
    · rw [if_neg heq]
      refine .slice (o' := o') hρb (by omega) (fun k hk => by cases hk; rfl) (fun s hs _ => by cases hs) (.inr ?_)
      rw [add_plain _ rfl, Nat.add_assoc]
  cases d <;> simp only [reduceCtorEq, Option.bind_eq_some_iff] at hc
  case string =>
    split at hc
    · cases hc
    · rename_i hms
      cases hc
      have := opdo_none hm' hms
      subst this
      simp only [nop, Option.bind_eq_some_iff] at hn
      obtain ⟨av, hav, lv, hlv, hv, hhv, hn⟩ := hn
      have h1 := hE x a av ha (by simp [AOp.opds]) hav
      have k1 := opdo_run hl' hlv (as := (AOp.slStr a l' h').opds) (fun y hy => by simp [AOp.opds, hy]) hE
      have k2 := opdo_run hh' hhv (as := (AOp.slStr a l' h').opds) (fun y hy => by simp [AOp.opds, hy]) hE
      cases av <;> simp only [reduceCtorEq] at hn
      simp only [Option.bind_eq_some_iff, Option.some.injEq, Prod.mk.injEq] at hn
      obtain ⟨r, hr, rfl, rfl⟩ := hn
      have e1 := h1.str_inv
      obtain ⟨hrun, _⟩ := sliceBounds_run (P := P) (w := w) (isS := false) hr (Nat.le_refl _) (Nat.le_refl _) k1 k2 (mx := none) (.inl ⟨rfl, rfl⟩)
      simp only [Option.map_none, Option.isSome_none, Bool.false_eq_true, if_false] at hrun
      refine .val (v' := .string _) (fun _ _ _ _ _ => ?_) (.str _)
      simp only [execOp, e1, Option.map_none, Sem.run_bind, Instr.sliceAt, Instr.slice, run_underlying hd, Result.andThen_ok, Option.isSome_none, Bool.false_eq_true, if_false, hrun, Sem.run_pure]
  case slice e =>
    obtain ⟨i, hi', hc⟩ := hc
    cases hc
    simp only [nop, Option.bind_eq_some_iff] at hn
    obtain ⟨av, hav, lv, hlv, hv, hhv, mv, hmv, hn⟩ := hn
    have h1 := hE x a av ha (by simp [AOp.opds]) hav
    have k1 := opdo_run hl' hlv (as := (AOp.slSl i.size a l' h' m').opds) (fun y hy => by simp [AOp.opds, hy]) hE
    have k2 := opdo_run hh' hhv (as := (AOp.slSl i.size a l' h' m').opds) (fun y hy => by simp [AOp.opds, hy]) hE
    have k3 := opdo_run hm' hmv (as := (AOp.slSl i.size a l' h' m').opds) (fun y hy => by simp [AOp.opds, hy]) hE
    cases av <;> simp only [reduceCtorEq] at hn
    case nils =>
      simp only [Option.bind_eq_some_iff, Option.some.injEq, Prod.mk.injEq] at hn
      obtain ⟨r, hr, rfl, rfl⟩ := hn
      have e1 := h1.nils_inv
      obtain ⟨hrun, h01, h02, h03, h04⟩ := sliceBounds_run (P := P) (w := w) (isS := true) hr (Nat.le_refl _) (Nat.le_refl _) k1 k2 k3
      have hz : r.1 = 0 ∧ r.2.1 = 0 ∧ r.2.2 = 0 := by omega
      have hif : (if mv.isSome = true then r.2.2 else 0) = 0 := by split <;> omega
      refine .val (v' := .slice none 0 0) (fun _ _ _ _ _ => ?_) .nils
      simp only [execOp, e1, Sem.run_bind, Instr.sliceAt, Instr.slice, run_underlying hd, Result.andThen_ok, hrun, sizeOf, typeInfo, run_program, hi', Sem.run_pure, hif, hz.1, hz.2.1, if_true, Nat.sub_self]
    case slice b o n c =>
      split at hn
      · rename_i hfits
        simp only [Option.bind_eq_some_iff, Option.some.injEq, Prod.mk.injEq] at hn
        obtain ⟨r, hr, rfl, rfl⟩ := hn
        obtain ⟨b', o', mm, cap, ad, hρb, e1, hncap, hck, hop, had⟩ := h1.slice_inv
        have hcA : n ≤ c.least n ∧ c.least n ≤ cap := by
          cases c with
          | op s => exact ⟨Nat.le_refl _, hncap⟩
          | ex k => have := hck k rfl; exact ⟨by simp [Cap.least]; omega, by simp [Cap.least]; omega⟩
        obtain ⟨hrun, h01, h02, h03, h04⟩ := sliceBounds_run (P := P) (w := w) (isS := true) hr hcA.1 hcA.2 k1 k2 k3
        refine .val (v' := .slice (if (if mv.isSome = true then r.2.2 else cap) = r.1 then some ad else (some ad).map (·.add (r.1 * i.size))) (r.2.1 - r.1) ((if mv.isSome = true then r.2.2 else cap) - r.1)) (fun _ _ _ _ _ => by
          simp only [execOp, e1, Sem.run_bind, Instr.sliceAt, Instr.slice, run_underlying hd, Result.andThen_ok, hrun, sizeOf, typeInfo, run_program, hi', Sem.run_pure]) ?_
        have hM : r.2.1 ≤ (if mv.isSome = true then r.2.2 else cap) := by split <;> omega
        have hM2 : (if mv.isSome = true then r.2.2 else cap) ≤ cap := by split <;> omega
        have hex : ∀ k, c.cut mv.isSome r.1 r.2.2 = .ex k → (if mv.isSome = true then r.2.2 else cap) - r.1 = k := by
          intro k hk
          cases c with
          | ex k' =>
            have := hck k' rfl
            simp only [Cap.cut, Cap.ex.injEq] at hk
            rw [← hk]; split <;> omega
          | op s =>
            simp only [Cap.cut] at hk
            split at hk
            · cases hk; rename_i hq; rw [if_pos hq]
            · cases hk
        have hopn : ∀ s, c.cut mv.isSome r.1 r.2.2 = .op s → s ≠ 0 → o' + (o + r.1 * i.size) + ((if mv.isSome = true then r.2.2 else cap) - r.1) * s ≤ mm := by
          intro s hs hs0
          cases c with
          | ex k' => simp [Cap.cut] at hs
          | op s' =>
            simp only [Cap.cut] at hs
            split at hs
            · cases hs
            · rename_i hq
              cases hs
              have := hop s rfl hs0
              rw [if_neg hq] at hM ⊢
              simp only [Cap.fits, Bool.or_eq_true, beq_iff_eq] at hfits
              rcases hfits with rfl | rfl
              · have e2 : r.1 * i.size + (cap - r.1) * i.size = cap * i.size := by rw [← Nat.add_mul]; congr 1; omega
                omega
              · exact absurd rfl hs0
        generalize hMe : (if mv.isSome = true then r.2.2 else cap) = M at *
        by_cases heq : M = r.1
        · rw [if_pos heq]
          exact .slice (o' := o') hρb (by omega) hex hopn (.inl (by omega))
        · rw [if_neg heq]
          refine .slice (o' := o') hρb (by omega) hex hopn (.inr ?_)
          rw [had.resolve_left (by omega), ← Nat.add_assoc]; exact add_at _ _ _
      · cases hn
  case array n e =>
    obtain ⟨i, hi', hc⟩ := hc
    split at hc
    · cases hc
    · rename_i hms
      cases hc
      refine arr n e i hi' rfl (opdo_none hm' hms) (fun ad r hr => ?_)
      simp only [Instr.sliceAt, Sem.run_bind, run_underlying hd, Result.andThen_ok, Instr.sureAddr, Sem.run_pure, hr, sizeOf, typeInfo, run_program, hi']
  case pointer ar =>
    obtain ⟨d2, hd2, hc⟩ := hc
    cases d2 <;> simp only [reduceCtorEq, Option.bind_eq_some_iff] at hc
    rename_i n e
    obtain ⟨i, hi', hc⟩ := hc
    split at hc
    · cases hc
    · rename_i hms
      cases hc
      refine arr n e i hi' rfl (opdo_none hm' hms) (fun ad r hr => ?_)
      simp only [Instr.sliceAt, Instr.slice, Sem.run_bind, run_underlying hd, run_underlying hd2, Result.andThen_ok, asAddr, Sem.run_pure, hr, sizeOf, typeInfo, run_program, hi']

theorem nop_faddr {ty : TypeId} {x : Operand} {f : Nat} (hc : compOp P (.fieldAddr ty x f) = some op) (hn : nop id op t σ = some (v, ob)) (hE : HE η ρ t op.opds) : NRun P η (.fieldAddr ty x f) w ρ id v ob := by
  simp only [compOp, Option.bind_eq_some_iff] at hc
  obtain ⟨d, hd, hc⟩ := hc
  cases d <;> simp only [reduceCtorEq, Option.bind_eq_some_iff] at hc
  rename_i fs
  obtain ⟨fl, hfl, i, hi, hc⟩ := hc
  split at hc
  · cases hc
  · rename_i h0
    simp only [Option.map_eq_some_iff] at hc
    obtain ⟨a, ha, rfl⟩ := hc
    simp only [nop, Option.bind_eq_some_iff] at hn
    obtain ⟨av, hav, hn⟩ := hn
    have h1 := hE x a av ha (by simp [AOp.opds]) hav
    cases av <;> simp only [reduceCtorEq, Option.some.injEq, Prod.mk.injEq] at hn
    obtain ⟨rfl, rfl⟩ := hn
    obtain ⟨b', o', _, hρb, e1⟩ := h1.ptr_inv
    refine .val (v' := .pointer (some ⟨b', o' + (_ + fl.offset), none⟩)) (fun _ _ _ _ _ => ?_) (.ptr hρb)
    simp only [execOp, Instr.fieldAt, e1, Sem.run_bind, run_underlying hd, Result.andThen_ok, hfl, Instr.sureAddr, Sem.run_pure, fieldPlace, sizeOf, typeInfo, run_program, hi, h0, if_false, add_at, Nat.add_assoc]

theorem nop_field {ty : TypeId} {x : Operand} {f : Nat} (hc : compOp P (.field ty x f) = some op) (hn : nop id op t σ = some (v, ob)) (hE : HE η ρ t op.opds) : NRun P η (.field ty x f) w ρ id v ob := by
  simp only [compOp, Option.bind_eq_some_iff] at hc
  obtain ⟨d, hd, hc⟩ := hc
  cases d <;> simp only [reduceCtorEq, Option.bind_eq_some_iff, Option.map_eq_some_iff] at hc
  rename_i fs
  obtain ⟨fl, hfl, k, hk, a, ha, rfl⟩ := hc
  simp only [nop, Option.bind_eq_some_iff] at hn
  obtain ⟨av, hav, hn⟩ := hn
  have h1 := hE x a av ha (by simp [AOp.opds]) hav
  cases av <;> simp only [reduceCtorEq, Option.bind_eq_some_iff, Option.some.injEq, Prod.mk.injEq] at hn
  obtain ⟨r, hr, rfl, rfl⟩ := hn
  obtain ⟨cs, e1, hcs⟩ := h1.agg_inv
  obtain ⟨u, hu, hrel⟩ := part_rel (w := w) hk hcs hr
  refine .val (v' := u) (fun _ _ _ _ _ => ?_) hrel
  simp only [execOp, Instr.field, e1, Sem.run_bind, run_underlying hd, Result.andThen_ok, hfl, asAgg, Sem.run_pure, hu]

theorem nop_iaddr {ty : TypeId} {x i : Operand} (hc : compOp P (.indexAddr ty x i) = some op) (hn : nop id op t σ = some (v, ob)) (hE : HE η ρ t op.opds) : NRun P η (.indexAddr ty x i) w ρ id v ob := by
  simp only [compOp, Option.bind_eq_some_iff] at hc
  obtain ⟨d, hd, a, ha, b, hb, hc⟩ := hc
  cases d <;> simp only [reduceCtorEq, Option.bind_eq_some_iff, Option.some.injEq] at hc
  case slice e =>
    obtain ⟨q, hq, rfl⟩ := hc
    simp only [nop, Option.bind_eq_some_iff] at hn
    obtain ⟨av, hav, iv, hiv, j, hj, hn⟩ := hn
    have h1 := hE x a av ha (by simp [AOp.opds]) hav
    obtain ⟨k, e2⟩ := (hE i b iv hb (by simp [AOp.opds]) hiv).asI hj
    cases av <;> simp only [reduceCtorEq] at hn
    split at hn
    · rename_i hc
      simp only [Option.some.injEq, Prod.mk.injEq] at hn
      obtain ⟨rfl, rfl⟩ := hn
      obtain ⟨b', o', _, cap, ad, hρb, e1, hncap, hck, _, had⟩ := h1.slice_inv
      have had := had.resolve_left (by omega)
      refine .val (v' := .pointer (some ⟨b', o' + (_ + j.toNat * q.size), none⟩)) (fun _ _ _ _ _ => ?_) (.ptr hρb)
      simp only [execOp, Instr.indexAt, e1, e2, asIntOf, Sem.run_bind, run_underlying hd, Result.andThen_ok, Sem.run_pure, hc, and_self, if_true, sizeOf, typeInfo, run_program, hq, had, add_at, Nat.add_assoc]
    · cases hn
  case array n e =>
    obtain ⟨q, hq, rfl⟩ := hc
    simp only [nop, Option.bind_eq_some_iff] at hn
    obtain ⟨av, hav, iv, hiv, j, hj, hn⟩ := hn
    have h1 := hE x a av ha (by simp [AOp.opds]) hav
    obtain ⟨k, e2⟩ := (hE i b iv hb (by simp [AOp.opds]) hiv).asI hj
    cases av <;> simp only [reduceCtorEq] at hn
    split at hn
    · rename_i hc
      simp only [Option.some.injEq, Prod.mk.injEq] at hn
      obtain ⟨rfl, rfl⟩ := hn
      obtain ⟨b', o', _, hρb, e1⟩ := h1.ptr_inv
      refine .val (v' := .pointer (some ⟨b', o' + (_ + j.toNat * q.size), none⟩)) (fun _ _ _ _ _ => ?_) (.ptr hρb)
      simp only [execOp, Instr.indexAt, e1, e2, asIntOf, Instr.sureAddr, Sem.run_bind, run_underlying hd, Result.andThen_ok, Sem.run_pure, hc, and_self, if_true, sizeOf, typeInfo, run_program, hq, add_at, Nat.add_assoc]
    · cases hn

theorem nop_index {ty : TypeId} {x i : Operand} (hc : compOp P (.index ty x i) = some op) (hn : nop id op t σ = some (v, ob)) (hE : HE η ρ t op.opds) : NRun P η (.index ty x i) w ρ id v ob := by
  simp only [compOp, Option.bind_eq_some_iff] at hc
  obtain ⟨d, hd, a, ha, b, hb, hc⟩ := hc
  cases d <;> simp only [reduceCtorEq, Option.bind_eq_some_iff, Option.some.injEq] at hc
  case string =>
    subst hc
    simp only [nop, Option.bind_eq_some_iff] at hn
    obtain ⟨av, hav, iv, hiv, j, hj, hn⟩ := hn
    have h1 := hE x a av ha (by simp [AOp.opds]) hav
    obtain ⟨k, e2⟩ := (hE i b iv hb (by simp [AOp.opds]) hiv).asI hj
    cases av <;> simp only [reduceCtorEq] at hn
    rename_i s
    split at hn
    · rename_i h0
      simp only [Option.bind_eq_some_iff, Option.some.injEq, Prod.mk.injEq] at hn
      obtain ⟨c, hc, rfl, rfl⟩ := hn
      have e1 := h1.str_inv
      have hs : s[j.toNat]? = some c := by
        obtain ⟨hlt, hg⟩ := List.getElem?_eq_some_iff.1 hc
        have hlt' : j.toNat < s.size := by rw [Array.length_toList] at hlt; exact hlt
        have h3 : s[j.toNat]? = some (s[j.toNat]'hlt') := by simp [hlt']
        rw [h3]; congr 1
      refine .val (v' := .int .u8 c.toNat) (fun _ _ _ _ _ => ?_) (.int _ _)
      simp only [execOp, Instr.index, e1, e2, asIntOf, Sem.run_bind, run_underlying hd, Result.andThen_ok, Sem.run_pure, h0, if_true, hs]
    · cases hn
  case array n e =>
    obtain ⟨q, hq, k, hk, rfl⟩ := hc
    simp only [nop, Option.bind_eq_some_iff] at hn
    obtain ⟨av, hav, iv, hiv, j, hj, hn⟩ := hn
    have h1 := hE x a av ha (by simp [AOp.opds]) hav
    obtain ⟨kk, e2⟩ := (hE i b iv hb (by simp [AOp.opds]) hiv).asI hj
    cases av <;> simp only [reduceCtorEq] at hn
    split at hn
    · rename_i hc
      simp only [Option.bind_eq_some_iff, Option.some.injEq, Prod.mk.injEq] at hn
      obtain ⟨r, hr, rfl, rfl⟩ := hn
      obtain ⟨cs, e1, hcs⟩ := h1.agg_inv
      obtain ⟨u, hu, hrel⟩ := part_rel (w := w) hk hcs hr
      refine .val (v' := u) (fun _ _ _ _ _ => ?_) hrel
      simp only [execOp, Instr.index, e1, e2, asIntOf, Sem.run_bind, run_underlying hd, Result.andThen_ok, Sem.run_pure, hc, and_self, if_true, sizeOf, typeInfo, run_program, hq, hu]
    · cases hn

theorem nop_extract {x : Operand} {i : Nat} (hc : compOp P (.extract x i) = some op) (hn : nop id op t σ = some (v, ob)) (hE : HE η ρ t op.opds) : NRun P η (.extract x i) w ρ id v ob := by
  simp only [compOp, Option.map_eq_some_iff] at hc
  obtain ⟨a, ha, rfl⟩ := hc
  simp only [nop, Option.bind_eq_some_iff] at hn
  obtain ⟨av, hav, hn⟩ := hn
  have h1 := hE x a av ha (by simp [AOp.opds]) hav
  cases av <;> simp only [reduceCtorEq, Option.bind_eq_some_iff, Option.some.injEq, Prod.mk.injEq] at hn
  obtain ⟨r, hr, rfl, rfl⟩ := hn
  obtain ⟨cs, e1, hcs⟩ := h1.tup_inv
  obtain ⟨u, hu, hrel⟩ := hcs.get hr
  refine .val (v' := u) (fun _ _ _ _ _ => ?_) hrel
  simp only [execOp, Instr.extract, e1, hu, Sem.run_bind, Sem.run_pure, Result.andThen_ok]
end
end Go.Vit
