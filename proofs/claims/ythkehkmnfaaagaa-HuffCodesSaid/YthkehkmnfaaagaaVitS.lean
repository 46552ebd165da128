/- Regions whose order is drawn, part 2. -/
import Derived.Test.YthkehkmnfaaagaaVitR
set_option linter.unusedVariables false
set_option linter.unusedSimpArgs false
namespace Go.Vit
section
variable {P : Program} {Y : YEnv} {ro : Option Nat} {ds : List Deferred} {N base : Nat} {K : Tmps → Mem → Prop} {RR : List RegE → Tmps → Mem → Prop} {X : Nat → Nat → Prop} {ops : Array Oper} {l : List RegE} {anc : Nat → List Nat} {hard : Nat → Bool} {ρ0 ρ : Ren} {σ0 σ : Mem} {w0 w : World}
  {listed : Array Bool} {l1 l2 : List RegE} {t : Tmps} {a : Act}

theorem inj_of_nodup : ∀ {l : List RegE}, (l.map (·.i)).Nodup → ∀ {p q : RegE}, p ∈ l → q ∈ l → p.i = q.i → p = q
  | [], _, p, _, hp, _, _ => by simp at hp
  | x :: l, h, p, q, hp, hq, e => by
    simp only [List.map_cons, List.nodup_cons] at h
    rcases List.mem_cons.1 hp with e1 | h1 <;> rcases List.mem_cons.1 hq with e2 | h2
    · rw [e1, e2]
    · exact absurd (by rw [← e1, e]; exact List.mem_map_of_mem h2) h.1
    · exact absurd (by rw [← e2, ← e]; exact List.mem_map_of_mem h1) h.1
    · exact inj_of_nodup h.2 h1 h2 e

theorem lst_lt {i : Nat} (h : Lst listed i) : i < listed.size := by
  unfold Lst at h
  rcases Nat.lt_or_ge i listed.size with h' | h'
  · exact h'
  · simp [Array.getD, Nat.not_lt.2 h'] at h

/-- What is ready has all that it waits for behind it. -/
theorem ready_anc (hp : PlanOk P N ops l anc hard X) (hcl : ∀ i, Lst listed i → ∀ x ∈ anc i, Lst listed x) {i : Nat} (hr : i ∈ Region.ready .any ops listed) : ∀ x ∈ anc i, Lst listed x := by
  obtain ⟨_, o, ho, hall⟩ := mem_ready.1 hr
  intro x hx
  obtain ⟨e, he, hb, h⟩ := hp.ancs i o ho x hx
  have := hall e he hb
  rcases h with rfl | h
  · exact this
  · exact hcl e.on this x h

theorem closed_set (hp : PlanOk P N ops l anc hard X) (hcl : ∀ i, Lst listed i → ∀ x ∈ anc i, Lst listed x) {i : Nat} (hi : i < listed.size) (hr : i ∈ Region.ready .any ops listed) :
    ∀ j, Lst (listed.setIfInBounds i true) j → ∀ x ∈ anc j, Lst (listed.setIfInBounds i true) x := by
  intro j hj x hx
  rw [lst_set hi] at hj ⊢
  rcases hj with rfl | hj
  · exact .inr (ready_anc hp hcl hr x hx)
  · exact .inr (hcl j hj x hx)

/-- The model carries out what the plan has carried out already. -/
theorem Inv.exec {p : RegE} (st0 : St ρ0 σ0 w0) (hY : YOk P Y ρ0 w0) (hp : PlanOk P N ops l anc hard X) (hl : l = l1 ++ l2) (h : Inv P Y ds N base RR ops anc hard ρ0 σ0 w0 listed l1 l2 t σ ρ a w) (hpm : p ∈ l1) (hr : p.i ∈ Region.ready .any ops listed)
    {Q : Exit → Act → World → Prop} {F : Act → World → Prop}
    (hF : ∀ ρ' a' w', Inv P Y ds N base RR ops anc hard ρ0 σ0 w0 (listed.setIfInBounds p.i true) l1 l2 t σ ρ' a' w' → F a' w') : wpOpIn (Fc ro) 0 P ops Q p.i F a w := by
  obtain ⟨hrest, hnew, hpend, htm, hst, hbase, hcl, hls⟩ := h
  have hplist : ¬ Lst listed p.i := by
    have := (mem_ready.1 hr).1
    unfold Lst
    intro e
    have hlt : p.i < listed.size := lst_lt e
    simp [Array.getD, hlt] at this e
    rw [this] at e; cases e
  have hpl : p ∈ l := by rw [hl]; simp [hpm]
  have hpi : p.i < listed.size := by rw [hls]; exact hp.lt p hpl
  obtain ⟨hsoft, hpd⟩ := hpend p hpm hplist
  have hanc := ready_anc hp hcl hr
  obtain ⟨o, ho, hco, hd, hg, hdn⟩ := (hp.comp p hpl).ex
  have hdn' : ∀ i, p.o.d = some i → i < N := fun i e => hdn i (by rw [← hd]; exact e)
  -- no operand waits
  have hnoD : ∀ i ∈ p.o.ts, ¬ ∃ q ∈ l1, ¬ Lst listed q.i ∧ q.o.d = some i := by
    rintro i hi ⟨q, hqm, hql, hqd⟩
    have hql' : q ∈ l := by rw [hl]; simp [hqm]
    have hqs := (hpend q hqm hql).1
    rcases List.mem_iff_append.1 hql' with ⟨A, B, hAB⟩
    have hpAB : p ∈ A ++ q :: B := by rw [← hAB]; exact hpl
    rcases List.mem_append.1 hpAB with hA | hB
    · have := ((pair_of (l1 := A) (l2 := q :: B) hp hAB hA (by simp)).war i hqd (.inl hi)).1
      rw [hqs] at this; cases this
    · rcases List.mem_cons.1 hB with rfl | hB
      · exact hp.self p hpl hsoft i hqd hi
      · have hAB' : l = (A ++ [q]) ++ B := by rw [hAB]; simp
        have := (pair_of (l1 := A ++ [q]) (l2 := B) hp hAB' (by simp) hB).raw i hqd hi
        exact hql (hanc _ this)
  have hmem : ∀ {ρ' : Ren} {a' : Act} {v : AV} {v' : Value}, (∀ b q, ρ b = some q → ρ' b = some q) → (∀ d, p.o.d = some d → Tr.get t d = some v) → VRel ρ' v v' → a' = a.put o.dst v' →
      TRel ds N (fun d => ∃ q ∈ l1, ¬ Lst (listed.setIfInBounds p.i true) q.i ∧ q.o.d = some d) ρ' t a' := by
    intro ρ' a' v v' hext hget hv e
    subst e
    rw [← hd]
    have h1 := (htm.mono hext).put hv hdn'
    refine ⟨h1.defers, h1.size, fun i u hi hu => ?_⟩
    by_cases hpi2 : p.o.d = some i
    · have : u = v := by rw [hget i hpi2] at hu; cases hu; rfl
      subst this
      exact h1.get i u (fun ⟨_, x⟩ => x hpi2) (by rw [hpi2]; exact get_set_self)
    · refine h1.get i u (fun ⟨⟨q, hqm, hql, hqd⟩, _⟩ => hi ⟨q, hqm, ?_, hqd⟩) (by rw [get_set_other hpi2]; exact hu)
      rw [lst_set hpi]
      rintro (e | e)
      · have : q = p := by
          have hnd := hp.nodup
          have hqq : q ∈ l := by rw [hl]; simp [hqm]
          exact inj_of_nodup hnd hqq hpl e
        subst this; exact hpi2 hqd
      · exact hql e
  have hnew' : ∀ {ρ' : Ren}, (∀ b, b ≠ base + p.i → ρ' b = ρ b) → ∀ q ∈ l2, ¬ Lst (listed.setIfInBounds p.i true) q.i ∧ Free base ρ' σ q.i := by
    intro ρ' hρ' q hq
    obtain ⟨g0, g1, g2, g3⟩ := hnew q hq
    have hne := ne_of hp hl hpm hq
    exact ⟨fun x => ((lst_set hpi).1 x).elim (fun e => hne e.symm) g0, by rw [hρ' _ (by omega)]; exact g1, g2, g3⟩
  have hpend' : ∀ {ρ' : Ren}, (∀ b, b ≠ base + p.i → ρ' b = ρ b) → ∀ q ∈ l1, ¬ Lst (listed.setIfInBounds p.i true) q.i → hard q.i = false ∧ Pend base ρ' t σ q := by
    intro ρ' hρ' q hq hql
    rw [lst_set hpi] at hql
    have hqi : q.i ≠ p.i := fun e => hql (.inl e)
    obtain ⟨x1, x2⟩ := hpend q hq (fun e => hql (.inr e))
    exact ⟨x1, x2.kept rfl (fun _ _ => rfl) (fun _ h => h) (fun _ h => h) (by rw [hρ' _ (by omega)]; exact x2.free) (Nat.le_refl _)⟩
  have hcl' := closed_set hp hcl hpi hr
  have hls' : (listed.setIfInBounds p.i true).size = ops.size := by simp [hls]
  obtain ⟨⟨b, hgv, hf, htr⟩, hρid, hltid⟩ := hpd
  have hw := guard_rel (o' := p.o) hg htm (fun g hg' => hnoD g.1 (mem_ts_guard hg')) hgv
  unfold wpOpIn
  simp only [ho]
  cases b with
  | false =>
    simp only [hw, Bool.false_eq_true, if_false]
    refine ⟨fun _ _ => trivial, ?_⟩
    exact hF ρ _ w ⟨hrest, hnew' (fun _ _ => rfl), hpend' (fun _ _ => rfl), hmem (fun _ _ e => e) (hf rfl) undef_rel rfl, hst, hbase, hcl', hls'⟩
  | true =>
    obtain ⟨v, ob, hn, hget, hk⟩ := htr rfl
    simp only [hw, if_true]
    have hne : p.o.op.eff = false := by
      cases e : p.o.op.eff with
      | false => rfl
      | true => rw [hp.eff p hpl e] at hsoft; cases hsoft
    have hnf : p.o.op ≠ .fail := by intro e; rw [e] at hne; simp [AOp.eff] at hne
    have hc := hco.resolve_right hnf
    obtain ⟨dst, oop, ty, pos, after, g⟩ := o
    obtain ⟨v', w', ρ', hrun, hN⟩ := nop_run hc hne hn (htm.he fun x hx i hi => hnoD i (mem_ts_opd hx hi)) hst.st hρid dst ty pos after g
    have hs := hN.step hst.st hρid hltid hk
    have nodef : ∀ c, oop ≠ .defer c := by
      intro c e
      subst e
      simp [compOp] at hc
    refine ⟨fun _ _ => trivial, ?_⟩
    rw [show Oper.semAt (Fc ro).round a.eval ⟨dst, oop, ty, pos, after, g⟩ = execOp a.eval ⟨dst, oop, ty, pos, after, g⟩ from Oper.semAt_eq _ _ _ nodef, hrun, Oper.uponIn_value]
    exact hF ρ' _ w' ⟨hrest, hnew' hN.ren, hpend' hN.ren, hmem hs.ext hget hN.val rfl, hst.trans hs (fun _ e => e) (fun b e => by subst e; exact Nat.le_add_right _ _), hbase, hcl', hls'⟩

/-- The plan and the model carry out what all that follows waits for. -/
theorem Inv.both {q : RegE} (hU : AUnf P Y base RR q l2) (st0 : St ρ0 σ0 w0) (hY : YOk P Y ρ0 w0) (hp : PlanOk P N ops l anc hard X) (hl : l = l1 ++ q :: l2) (h : Inv P Y ds N base RR ops anc hard ρ0 σ0 w0 listed l1 (q :: l2) t σ ρ a w) (hq : hard q.i = true) (hr : q.i ∈ Region.ready .any ops listed)
    {Q : Exit → Act → World → Prop} {F : Act → World → Prop}
    (hF : ∀ t' σ' ρ' a' w', Inv P Y ds N base RR ops anc hard ρ0 σ0 w0 (listed.setIfInBounds q.i true) (l1 ++ [q]) l2 t' σ' ρ' a' w' → F a' w') : wpOpIn (Fc ro) 0 P ops Q q.i F a w := by
  obtain ⟨hrest, hnew, hpend, htm, hst, hbase, hcl, hls⟩ := h
  have hqm : q ∈ l := by rw [hl]; simp
  obtain ⟨hql, f1, f2, f3⟩ := hnew q (by simp)
  have hqi : q.i < listed.size := by rw [hls]; exact hp.lt q hqm
  have hanc := ready_anc hp hcl hr
  obtain ⟨o, ho, hco, hd, hg, hdn⟩ := (hp.comp q hqm).ex
  have hdn' : ∀ i, q.o.d = some i → i < N := fun i e => hdn i (by rw [← hd]; exact e)
  have hcl' := closed_set hp hcl hqi hr
  have hls' : (listed.setIfInBounds q.i true).size = ops.size := by simp [hls]
  have hpair : ∀ p ∈ l1, Pair anc hard X p q := fun p hpm => pair_of hp hl hpm (by simp)
  have hnoD : ∀ i ∈ q.o.ts, ¬ ∃ p ∈ l1, ¬ Lst listed p.i ∧ p.o.d = some i := by
    rintro i hi ⟨p, hpm, hpl, hpd⟩
    exact hpl (hanc _ ((hpair p hpm).raw i hpd hi))
  have hnow : ∀ p ∈ l1, ¬ Lst listed p.i → ∀ x, q.o.d = some x → x ∉ p.o.ts ∧ p.o.d ≠ some x := by
    intro p hpm hpl x hx
    exact ⟨fun hm => hpl (hanc _ ((hpair p hpm).war x hx (.inl hm)).2), fun hm => hpl (hanc _ ((hpair p hpm).war x hx (.inr hm)).2)⟩
  have hl2ne : ∀ p ∈ l2, p.i ≠ q.i := by
    intro p hpm
    have hl' : l = (l1 ++ [q]) ++ l2 := by rw [hl]; simp
    exact (ne_of (l1 := l1 ++ [q]) (l2 := l2) hp hl' (by simp) hpm).symm
  -- the frame behind it
  have tkeep : ∀ {ρ' : Ren} {v : AV} {v' : Value}, (∀ b p, ρ b = some p → ρ' b = some p) → VRel ρ' v v' → TRel ds N (fun d => ∃ p ∈ l1 ++ [q], ¬ Lst (listed.setIfInBounds q.i true) p.i ∧ p.o.d = some d) ρ' (Tmps.set t q.o.d v) (a.put o.dst v') := by
    intro ρ' v v' hext hv
    rw [← hd]
    have h1 := (htm.mono hext).put hv hdn'
    refine ⟨h1.defers, h1.size, fun i u hi hu => h1.get i u (fun ⟨⟨p, hpm, hpl, hpd⟩, _⟩ => hi ⟨p, by simp [hpm], ?_, hpd⟩) hu⟩
    rw [lst_set hqi]
    rintro (e | e)
    · exact (ne_of hp hl hpm (show q ∈ q :: l2 by simp)) e
    · exact hpl e
  have hw0 : ∀ {b : Bool}, gval t q.o.g = some b → Region.wanted o (yielded ops a.tmps) = b := fun hgv => guard_rel (o' := q.o) hg htm (fun g hg' => hnoD g.1 (mem_ts_guard hg')) hgv
  -- what is pending
  have keep : ∀ {v : AV} {σ' : Mem} {ρ' : Ren}, (∀ p ∈ l1, ¬ Lst listed p.i → ∀ r, nop (base + p.i) p.o.op t σ = some r → nop (base + p.i) p.o.op t σ' = some r) → (∀ p ∈ l1, ¬ Lst listed p.i → σ'.get (base + p.i) = σ.get (base + p.i) ∧ ρ' (base + p.i) = none) → σ.next ≤ σ'.next →
      ∀ p ∈ l1 ++ [q], ¬ Lst (listed.setIfInBounds q.i true) p.i → hard p.i = false ∧ Pend base ρ' (Tmps.set t q.o.d v) σ' p := by
    intro v σ' ρ' hn hk hnx p hpm hpl
    rw [lst_set hqi] at hpl
    rcases List.mem_append.1 hpm with hpm | hpm
    · have hpl' : ¬ Lst listed p.i := fun e => hpl (.inr e)
      obtain ⟨x1, x2⟩ := hpend p hpm hpl'
      refine ⟨x1, x2.kept (gval_set fun i hi g hg' e => (hnow p hpm hpl' i hi).1 (by rw [← e]; exact mem_ts_guard hg')) (fun d hd' => get_set_other fun e => (hnow p hpm hpl' d e).2 hd') (fun r hr => ?_) (fun k hk' => by rw [(hk p hpm hpl').1]; exact hk') (hk p hpm hpl').2 hnx⟩
      rw [nop_set (fun i hi x hx hm => (hnow p hpm hpl' i hi).1 (mem_ts_opd hx hm))]
      exact hn p hpm hpl' r hr
    · simp only [List.mem_singleton] at hpm
      subst hpm
      exact absurd (.inl rfl) hpl
  replace hrest := hU t σ hrest
  unfold wpOpIn
  simp only [ho]
  cases hgv : gval t q.o.g with
  | none => rw [hgv] at hrest; exact hrest.elim
  | some b =>
    rw [hgv] at hrest
    have hw := hw0 hgv
    cases b with
    | false =>
      simp only [hw, Bool.false_eq_true, if_false]
      refine ⟨fun _ _ => trivial, ?_⟩
      refine hF _ σ ρ _ w ⟨hrest, fun p hpm => ?_, keep (fun _ _ _ _ h => h) (fun p hpm hpl => ⟨rfl, (hpend p hpm hpl).2.free⟩) (Nat.le_refl _), tkeep (fun _ _ e => e) undef_rel, hst, hbase, hcl', hls'⟩
      obtain ⟨g0, g1⟩ := hnew p (by simp [hpm])
      exact ⟨fun x => ((lst_set hqi).1 x).elim (hl2ne p hpm) g0, g1⟩
    | true =>
      simp only [hw, if_true]
      refine (hrest : AStep P Y _ _ _ _ _).sim hco (hY.step st0 hst) (htm.he fun x hx i hi => hnoD i (mem_ts_opd hx hi)) hst.st f1 f3 f2 ?_
      rintro v v' σ' ρ' w' ⟨hfl, hk⟩ hv hs
      have hsame : ∀ p ∈ l1, ¬ Lst listed p.i → σ'.get (base + p.i) = σ.get (base + p.i) ∧ ρ' (base + p.i) = none := by
        intro p hpm hpl
        have x2 := (hpend p hpm hpl).2
        have hne : p.i ≠ q.i := ne_of hp hl hpm (by simp)
        have hno : ¬ (base + p.i = base + q.i ∨ σ.next ≤ base + p.i) := by have := x2.lt; omega
        refine ⟨hs.same _ hno x2.free, ?_⟩
        cases e : ρ' (base + p.i) with
        | none => rfl
        | some r => exact absurd (hs.fresh _ r e x2.free).1 hno
      refine hF _ σ' ρ' _ w' ⟨hk, fun p hpm => ?_, keep (fun p hpm hpl r hr => ?_) hsame hs.next, tkeep hs.ext hv, hst.trans hs (fun _ e => e) (fun b e => by rcases e with rfl | e <;> omega), Nat.le_trans hbase hs.next, hcl', hls'⟩
      · obtain ⟨g0, g1⟩ := hnew p (by simp [hpm])
        exact ⟨fun x => ((lst_set hqi).1 x).elim (hl2ne p hpm) g0, g1.step hs (hl2ne p hpm)⟩
      · by_cases hrd : p.o.op.reads = true
        · rcases (hpair p hpm).mem hq hrd with hin | hin
          · exact absurd (hanc _ hin) hpl
          · have := hfl.mem (p.i, p.o.op) hin
            simp only at this
            rw [this]; exact hr
        · rw [nop_pure (by simpa using hrd) σ' σ]; exact hr

theorem planned {i : Nat} (hp : PlanOk P N ops l anc hard X) (hi : i < ops.size) (hl : l = l1 ++ l2) : (∃ p ∈ l1, p.i = i) ∨ ∃ s p r, l2 = s ++ p :: r ∧ p.i = i := by
  obtain ⟨p, hpm, hpi⟩ := hp.all i hi
  rw [hl] at hpm
  rcases List.mem_append.1 hpm with h | h
  · exact .inl ⟨p, h, hpi⟩
  · obtain ⟨s, r, e⟩ := List.mem_iff_append.1 h
    exact .inr ⟨s, p, r, e, hpi⟩

def unl (listed : Array Bool) (l : List RegE) : Nat := (l.filter fun p => !listed.getD p.i false).length

theorem unl_set (hp : PlanOk P N ops l anc hard X) {p : RegE} (hpm : p ∈ l) (hpl : ¬ Lst listed p.i) (hlt : p.i < listed.size) : unl (listed.setIfInBounds p.i true) l + 1 = unl listed l := by
  obtain ⟨A, B, e⟩ := List.mem_iff_append.1 hpm
  have hne : ∀ q, q ∈ A ∨ q ∈ B → q.i ≠ p.i := by
    intro q hq
    have := hp.nodup
    rw [e, List.map_append, List.nodup_append, List.map_cons, List.nodup_cons] at this
    rcases hq with hq | hq
    · exact this.2.2 _ (List.mem_map_of_mem hq) _ (by simp)
    · exact fun x => this.2.1.1 (by rw [← x]; exact List.mem_map_of_mem hq)
  have hf : ∀ C : List RegE, (∀ q ∈ C, q.i ≠ p.i) → C.filter (fun q => !(listed.setIfInBounds p.i true).getD q.i false) = C.filter (fun q => !listed.getD q.i false) := by
    intro C hC
    refine List.filter_congr fun q hq => ?_
    rw [getD_set_ne false (fun x => hC q hq x.symm)]
  have hp0 : listed.getD p.i false = false := by
    unfold Lst at hpl; simpa using hpl
  have hp1 : (listed.setIfInBounds p.i true).getD p.i false = true := by simp [hlt]
  unfold unl
  rw [e]
  simp only [List.filter_append, List.filter_cons, hp0, hp1, Bool.not_true, Bool.not_false, Bool.false_eq_true, if_false, if_true, List.length_append, List.length_cons]
  rw [hf A (fun q hq => hne q (.inl hq)), hf B (fun q hq => hne q (.inr hq))]
  omega

/-- Where nothing is ready, all is done. -/
theorem all_done (hp : PlanOk P N ops l anc hard X) (hls : listed.size = ops.size) (hr : Region.ready .any ops listed = []) : ∀ p ∈ l, Lst listed p.i := by
  have key : ∀ (l1 l2 : List RegE), l = l1 ++ l2 → (∀ p ∈ l1, Lst listed p.i) → ∀ p ∈ l2, Lst listed p.i := by
    intro l1 l2
    induction l2 generalizing l1 with
    | nil => intro _ _ p hp; simp at hp
    | cons q l2 ih =>
      intro hl h1
      have hq : Lst listed q.i := by
        rcases Classical.em (Lst listed q.i) with h | h
        · exact h
        · exfalso
          have hqm : q ∈ l := by rw [hl]; simp
          obtain ⟨o, ho, _⟩ := (hp.comp q hqm).ex
          have hlt : q.i < listed.size := by rw [hls]; exact hp.lt q hqm
          have : q.i ∈ Region.ready .any ops listed := by
            rw [mem_ready]
            refine ⟨?_, o, ho, fun e he hb => ?_⟩
            · unfold Lst at h
              simp [Array.getD, hlt] at h ⊢; exact h
            · obtain ⟨p, hpm, hpi⟩ := hp.ext l1 q l2 hl o ho e he hb
              have := h1 p hpm
              rw [hpi] at this; exact this
          rw [hr] at this; cases this
      intro p hp'
      rcases List.mem_cons.1 hp' with rfl | hp'
      · exact hq
      · exact ih (l1 ++ [q]) (by rw [hl]; simp) (fun x hx => by
          rcases List.mem_append.1 hx with hx | hx
          · exact h1 x hx
          · simp only [List.mem_singleton] at hx; subst hx; exact hq) p hp'
  exact fun p hpm => key [] l rfl (fun p hp => by simp at hp) p hpm

theorem Inv.run (st0 : St ρ0 σ0 w0) (hY : YOk P Y ρ0 w0) (hp : PlanOk P N ops l anc hard X) {Q : Exit → Act → World → Prop}
    (hQ : ∀ t' σ' ρ' a' w', K t' σ' → TRel ds N (fun _ => False) ρ' t' a' → Step (fun b => base ≤ b) ρ0 σ0 w0 ρ' σ' w' → Q .normal a' w') :
    ∀ (fuel : Nat) (listed : Array Bool) (l1 l2 : List RegE) (t : Tmps) (σ : Mem) (ρ : Ren) (a : Act) (w : World), l = l1 ++ l2 → (∀ p ∈ l2, ∀ q ∈ l2, ¬ X p.i q.i) → unl listed l ≤ fuel → Inv P Y ds N base (AOps P Y base K) ops anc hard ρ0 σ0 w0 listed l1 l2 t σ ρ a w → wpAnyIn (Fc ro) 0 P .any ops Q fuel listed a w := by
  have fin : ∀ (listed : Array Bool) (l1 l2 : List RegE) (t : Tmps) (σ : Mem) (ρ : Ren) (a : Act) (w : World), l = l1 ++ l2 → Inv P Y ds N base (AOps P Y base K) ops anc hard ρ0 σ0 w0 listed l1 l2 t σ ρ a w → Region.ready .any ops listed = [] → Q .normal a w := by
    intro listed l1 l2 t σ ρ a w hl h hr
    have hall := all_done hp h.lsize hr
    have h2 : l2 = [] := by
      cases l2 with
      | nil => rfl
      | cons q l2 => exact absurd (hall q (by rw [hl]; simp)) (h.new q (by simp)).1
    subst h2
    exact hQ t σ ρ a w h.rest (h.tmps.weaken fun i ⟨p, hpm, hpl, _⟩ => hpl (hall p (by rw [hl]; simp [hpm]))) h.step
  intro fuel
  induction fuel with
  | zero =>
    intro listed l1 l2 t σ ρ a w hl hX hu h
    have hr : Region.ready .any ops listed = [] := by
      cases e : Region.ready .any ops listed with
      | nil => rfl
      | cons i r =>
        exfalso
        have hi : i ∈ Region.ready .any ops listed := by rw [e]; simp
        obtain ⟨h0, o, ho, _⟩ := mem_ready.1 hi
        have hilt : i < ops.size := (Array.getElem?_eq_some_iff.1 ho).1
        obtain ⟨p, hpm, rfl⟩ := hp.all i hilt
        have hnl : listed.getD p.i false = false := by
          have : p.i < listed.size := by rw [h.lsize]; exact hilt
          simp [Array.getD, this] at h0 ⊢; exact h0
        have : p ∈ l.filter (fun p => !listed.getD p.i false) := List.mem_filter.2 ⟨hpm, by rw [hnl]; rfl⟩
        have hlen : 0 < unl listed l := List.length_pos_of_mem this
        omega
    exact ⟨hr, fin listed l1 l2 t σ ρ a w hl h hr⟩
  | succ fuel ih =>
    intro listed l1 l2 t σ ρ a w hl hX hu h
    refine ⟨fin listed l1 l2 t σ ρ a w hl h, fun i hi => ?_⟩
    obtain ⟨h0, o, ho, hpre⟩ := mem_ready.1 hi
    have hilt : i < ops.size := (Array.getElem?_eq_some_iff.1 ho).1
    have hil : i < listed.size := by rw [h.lsize]; exact hilt
    have hnl : ¬ Lst listed i := by
      unfold Lst
      simp [Array.getD, hil] at h0 ⊢; exact h0
    have hcount : ∀ {p : RegE}, p ∈ l → p.i = i → unl (listed.setIfInBounds i true) l ≤ fuel := by
      intro p hpm e
      subst e
      have := unl_set hp hpm hnl hil
      omega
    rcases planned hp hilt hl with ⟨p, hpm, rfl⟩ | ⟨s, p, r, hs, rfl⟩
    · exact Inv.exec st0 hY hp hl h hpm hi fun ρ' a' w' h' => ih _ l1 l2 t σ ρ' a' w' hl hX (hcount (by rw [hl]; simp [hpm]) rfl) h'
    · subst hs
      have hpl : p ∈ l := by rw [hl]; simp
      have hanc := ready_anc hp h.closed hi
      have hsoft : ∀ q ∈ s, hard q.i = false := by
        intro q hq
        cases e : hard q.i with
        | false => rfl
        | true =>
          have hl' : l = (l1 ++ s) ++ (p :: r) := by rw [hl]; simp
          have := (pair_of (l1 := l1 ++ s) (l2 := p :: r) (p := q) (q := p) hp hl' (by simp [hq]) (by simp)).hd e
          rcases this with this | this
          · exact (hX q (by simp [hq]) p (by simp) this).elim
          · exact absurd (hanc _ this) (h.new q (by simp [hq])).1
      obtain ⟨t1, σ1, h1⟩ := Inv.advances (fun _ _ _ => AUnf.all _ _) hp s l1 (p :: r) t σ hl h hsoft
      have hl1 : l = (l1 ++ s) ++ p :: r := by rw [hl]; simp
      cases hh : hard p.i with
      | false =>
        obtain ⟨t2, σ2, h2⟩ := Inv.advance (AUnf.all _ _) hp hl1 h1 hh
        have hl2 : l = (l1 ++ s ++ [p]) ++ r := by rw [hl]; simp
        exact Inv.exec st0 hY hp hl2 h2 (by simp) hi fun ρ' a' w' h' => ih _ _ r t2 σ2 ρ' a' w' hl2 (fun x hx y hy => hX x (by simp [hx]) y (by simp [hy])) (hcount hpl rfl) h'
      | true =>
        exact Inv.both (AUnf.all _ _) st0 hY hp hl1 h1 hh hi fun t' σ' ρ' a' w' h' => ih _ _ r t' σ' ρ' a' w' (by rw [hl]; simp) (fun x hx y hy => hX x (by simp [hx]) y (by simp [hy])) (hcount hpl rfl) h'

/-- Two operations at the end whose order is drawn, each order planned. -/
def RR1 (P : Program) (Y : YEnv) (base : Nat) (K : Tmps → Mem → Prop) (p q q' p' : RegE) : List RegE → Tmps → Mem → Prop := fun l2 t σ =>
  ∃ l3, l2 = l3 ++ [p, q] ∧ AOps P Y base (fun t σ => AOps P Y base K [p, q] t σ ∧ AOps P Y base K [q', p'] t σ) l3 t σ
theorem RR1.unf {p q q' p' x : RegE} {l2 : List RegE} (h1 : x ≠ p) (h2 : x ≠ q) : AUnf P Y base (RR1 P Y base K p q q' p') x l2 := by
  rintro t σ ⟨l3, e, h⟩
  cases l3 with
  | nil => simp at e; exact absurd e.1 h1
  | cons y l3 =>
    simp only [List.cons_append, List.cons.injEq] at e
    obtain ⟨rfl, rfl⟩ := e
    have h : (match gval t x.o.g with
      | some true => AStep P Y (base + x.i) x.o.op t σ fun v σ' => Floats base t σ σ' x.fl ∧ AOps P Y base (fun t σ => AOps P Y base K [p, q] t σ ∧ AOps P Y base K [q', p'] t σ) l3 (Tmps.set t x.o.d v) σ'
      | some false => AOps P Y base (fun t σ => AOps P Y base K [p, q] t σ ∧ AOps P Y base K [q', p'] t σ) l3 (Tmps.set t x.o.d (.tup [])) σ
      | none => False) := h
    cases hg : gval t x.o.g with
    | none => rw [hg] at h; exact h
    | some b =>
      rw [hg] at h
      cases b with
      | false => exact ⟨l3, rfl, h⟩
      | true =>
        obtain ⟨xi, ⟨xd, xg, xop⟩, xfl⟩ := x
        have key : ∀ {k k' : AV → Mem → Prop}, (∀ v σ, k v σ → k' v σ) → AStep P Y (base + xi) xop t σ k → AStep P Y (base + xi) xop t σ k' := fun hk hs => AStep.mono hs hk
        exact key (fun v σ' hh => ⟨hh.1, l3, rfl, hh.2⟩) h
theorem unl_swap {p q q' p' : RegE} {l0 : List RegE} (hpi : p'.i = p.i) (hqi : q'.i = q.i) : unl listed (l0 ++ [q', p']) = unl listed (l0 ++ [p, q]) := by
  unfold unl
  rw [List.filter_append, List.filter_append, List.length_append, List.length_append]
  congr 1
  simp only [List.filter_cons, List.filter_nil, hpi, hqi]
  split <;> split <;> simp
theorem Inv.run1 {l0 : List RegE} {p q q' p' : RegE} (st0 : St ρ0 σ0 w0) (hY : YOk P Y ρ0 w0) (hX : X = fun i j => (i = p.i ∧ j = q.i) ∨ (i = q.i ∧ j = p.i)) (hpA : PlanOk P N ops (l0 ++ [p, q]) anc hard X) (hpB : PlanOk P N ops (l0 ++ [q', p']) anc hard X)
    (hpi : p'.i = p.i) (hqi : q'.i = q.i) (hph : hard p.i = true) (hqh : hard q.i = true) {Q : Exit → Act → World → Prop}
    (hQ : ∀ t' σ' ρ' a' w', K t' σ' → TRel ds N (fun _ => False) ρ' t' a' → Step (fun b => base ≤ b) ρ0 σ0 w0 ρ' σ' w' → Q .normal a' w') :
    ∀ (fuel : Nat) (listed : Array Bool) (l1 l2 : List RegE) (t : Tmps) (σ : Mem) (ρ : Ren) (a : Act) (w : World), l0 = l1 ++ l2 → unl listed (l0 ++ [p, q]) ≤ fuel →
      Inv P Y ds N base (RR1 P Y base K p q q' p') ops anc hard ρ0 σ0 w0 listed l1 (l2 ++ [p, q]) t σ ρ a w → wpAnyIn (Fc ro) 0 P .any ops Q fuel listed a w := by
  have hpq : p.i ≠ q.i := by
    have := hpA.nodup
    rw [List.map_append, List.nodup_append] at this
    have := this.2.1
    simp at this
    exact this
  have hnot : ∀ y ∈ l0, y.i ≠ p.i ∧ y.i ≠ q.i := fun y hy => ⟨ne_of (l1 := l0) (l2 := [p, q]) hpA rfl hy (by simp), ne_of (l1 := l0) (l2 := [p, q]) hpA rfl hy (by simp)⟩
  have fin : ∀ (listed : Array Bool) (l1 l2 : List RegE) (t : Tmps) (σ : Mem) (ρ : Ren) (a : Act) (w : World), Inv P Y ds N base (RR1 P Y base K p q q' p') ops anc hard ρ0 σ0 w0 listed l1 (l2 ++ [p, q]) t σ ρ a w → Region.ready .any ops listed = [] → False := by
    intro listed l1 l2 t σ ρ a w h hr
    exact (h.new p (by simp)).1 (all_done hpA h.lsize hr p (by simp))
  have hUs : ∀ (x : RegE) (l2 : List RegE), x.i ≠ p.i → x.i ≠ q.i → AUnf P Y base (RR1 P Y base K p q q' p') x l2 := fun x l2 h1 h2 => RR1.unf (fun e => h1 (by rw [e])) (fun e => h2 (by rw [e]))
  have hsoftU : ∀ (x : RegE) (l2 : List RegE), hard x.i = false → AUnf P Y base (RR1 P Y base K p q q' p') x l2 := fun x l2 h => hUs x l2 (fun e => by rw [e, hph] at h; cases h) (fun e => by rw [e, hqh] at h; cases h)
  intro fuel
  induction fuel with
  | zero =>
    intro listed l1 l2 t σ ρ a w hl hu h
    have hr : Region.ready .any ops listed = [] := by
      cases e : Region.ready .any ops listed with
      | nil => rfl
      | cons i r =>
        exfalso
        have hi : i ∈ Region.ready .any ops listed := by rw [e]; simp
        obtain ⟨h0, o, ho, _⟩ := mem_ready.1 hi
        have hilt : i < ops.size := (Array.getElem?_eq_some_iff.1 ho).1
        obtain ⟨x, hxm, rfl⟩ := hpA.all i hilt
        have hnl : listed.getD x.i false = false := by
          have : x.i < listed.size := by rw [h.lsize]; exact hilt
          simp [Array.getD, this] at h0 ⊢; exact h0
        have : x ∈ (l0 ++ [p, q]).filter (fun x => !listed.getD x.i false) := List.mem_filter.2 ⟨hxm, by rw [hnl]; rfl⟩
        have hlen : 0 < unl listed (l0 ++ [p, q]) := List.length_pos_of_mem this
        omega
    exact (fin listed l1 l2 t σ ρ a w h hr).elim
  | succ fuel ih =>
    intro listed l1 l2 t σ ρ a w hl hu h
    refine ⟨fun hr => (fin listed l1 l2 t σ ρ a w h hr).elim, fun i hi => ?_⟩
    obtain ⟨h0, o, ho, hpre⟩ := mem_ready.1 hi
    have hilt : i < ops.size := (Array.getElem?_eq_some_iff.1 ho).1
    have hil : i < listed.size := by rw [h.lsize]; exact hilt
    have hnl : ¬ Lst listed i := by
      unfold Lst
      simp [Array.getD, hil] at h0 ⊢; exact h0
    have hcount : ∀ {x : RegE}, x ∈ l0 ++ [p, q] → x.i = i → unl (listed.setIfInBounds i true) (l0 ++ [p, q]) ≤ fuel := by
      intro x hxm e
      subst e
      have := unl_set hpA hxm hnl hil
      omega
    have hlA : l0 ++ [p, q] = l1 ++ (l2 ++ [p, q]) := by rw [hl]; simp
    have hanc := ready_anc hpA h.closed hi
    -- what is planned ahead of it is quiet
    have soft : ∀ (s r : List RegE) (x : RegE), l2 ++ [p, q] = s ++ x :: r → x.i = i → ∀ y ∈ s, y ∈ l2 → hard y.i = false := by
      intro s r x hs hx y hy hy2
      cases e : hard y.i with
      | false => rfl
      | true =>
        have hl' : l0 ++ [p, q] = (l1 ++ s) ++ (x :: r) := by rw [hlA, hs]; simp
        have := (pair_of (l1 := l1 ++ s) (l2 := x :: r) (p := y) (q := x) hpA hl' (by simp [hy]) (by simp)).hd e
        have hy0 := hnot y (by rw [hl]; simp [hy2])
        rcases this with this | this
        · rw [hX] at this
          rcases this with this | this
          · exact absurd this.1 hy0.1
          · exact absurd this.1 hy0.2
        · rw [hx] at this
          exact absurd (hanc _ this) (h.new y (by simp [hy2])).1
    -- at the end both orders stand
    have ends : (∀ y ∈ l2, hard y.i = false) → ∃ t' σ', Inv P Y ds N base (AOps P Y base K) ops anc hard ρ0 σ0 w0 listed l0 [p, q] t' σ' ρ a w ∧ Inv P Y ds N base (AOps P Y base K) ops anc hard ρ0 σ0 w0 listed l0 [q', p'] t' σ' ρ a w := by
      intro hsf
      obtain ⟨t1, σ1, h1⟩ := Inv.advances hsoftU hpA l2 l1 [p, q] t σ hlA h hsf
      rw [← hl] at h1
      obtain ⟨⟨l3, e3, hA, hB⟩, r2, r3, r4, r5, r6, r7, r8⟩ : (∃ l3, [p, q] = l3 ++ [p, q] ∧ AOps P Y base K [p, q] t1 σ1 ∧ AOps P Y base K [q', p'] t1 σ1) ∧ _ := by
        refine ⟨?_, h1⟩
        obtain ⟨l3, e3, h3⟩ := h1.rest
        have : l3 = [] := by
          have := congrArg List.length e3
          simp at this
          exact this
        subst this
        exact ⟨[], rfl, h3⟩
      exact ⟨t1, σ1, ⟨hA, h1.new, h1.pend, h1.tmps, h1.step, h1.base, h1.closed, h1.lsize⟩, ⟨hB, fun z hz => by
        rcases List.mem_cons.1 hz with rfl | hz
        · have := h1.new q (by simp)
          rw [← hqi] at this; exact this
        · simp at hz
          subst hz
          have := h1.new p (by simp)
          rw [← hpi] at this; exact this, h1.pend, h1.tmps, h1.step, h1.base, h1.closed, h1.lsize⟩⟩
    have caseP : p.i = i → (∀ y ∈ l2, hard y.i = false) → wpOpIn (Fc ro) 0 P ops Q i (wpAnyIn (Fc ro) 0 P .any ops Q fuel (listed.setIfInBounds i true)) a w := by
      intro e hsf
      subst e
      obtain ⟨t1, σ1, hA, _⟩ := ends hsf
      refine Inv.both (AUnf.all _ _) st0 hY hpA (l1 := l0) (l2 := [q]) rfl hA hph hi fun t' σ' ρ' a' w' h' => ?_
      refine Inv.run st0 hY hpA hQ fuel _ (l0 ++ [p]) [q] t' σ' ρ' a' w' (by simp) ?_ (hcount (x := p) (by simp) rfl) h'
      intro x hx y hy hxy
      simp at hx hy
      subst hx hy
      rw [hX] at hxy
      rcases hxy with hxy | hxy
      · exact hpq hxy.1.symm
      · exact hpq hxy.2.symm
    have caseQ : q.i = i → (∀ y ∈ l2, hard y.i = false) → wpOpIn (Fc ro) 0 P ops Q i (wpAnyIn (Fc ro) 0 P .any ops Q fuel (listed.setIfInBounds i true)) a w := by
      intro e hsf
      have e' : q'.i = i := hqi.trans e
      subst e'
      obtain ⟨t1, σ1, _, hB⟩ := ends hsf
      refine Inv.both (AUnf.all _ _) st0 hY hpB (l1 := l0) (l2 := [p']) rfl hB (by rw [hqi]; exact hqh) hi fun t' σ' ρ' a' w' h' => ?_
      refine Inv.run st0 hY hpB hQ fuel _ (l0 ++ [q']) [p'] t' σ' ρ' a' w' (by simp) ?_ (by rw [unl_swap hpi hqi]; exact hcount (x := q) (by simp) hqi.symm) h'
      intro x hx y hy hxy
      simp at hx hy
      subst hx hy
      rw [hX] at hxy
      rcases hxy with hxy | hxy
      · exact hpq (hpi.symm.trans hxy.2 |> fun e => e)
      · exact hpq (hxy.2.symm.trans (hxy.1.trans rfl) |>.trans rfl |> fun e => by rw [hpi] at hxy; exact hxy.1)
    rcases planned hpA hilt hlA with ⟨x, hxm, rfl⟩ | ⟨s, x, r, hs, hxi⟩
    · exact Inv.exec st0 hY hpA hlA h hxm hi fun ρ' a' w' h' => ih _ l1 l2 t σ ρ' a' w' hl (hcount (by rw [hl]; simp [hxm]) rfl) h'
    · have hsf := soft s r x hs hxi
      rcases List.append_eq_append_iff.1 hs with ⟨c, e1, e2⟩ | ⟨c, e1, e2⟩
      · -- behind what is planned
        cases c with
        | nil =>
          simp at e1 e2
          obtain ⟨rfl, rfl⟩ := e2
          exact caseP hxi fun y hy => hsf y (by rw [e1]; exact hy) hy
        | cons c0 c =>
          cases c with
          | nil =>
            simp at e2
            obtain ⟨rfl, rfl, rfl⟩ := e2
            exact caseQ hxi fun y hy => hsf y (by rw [e1]; simp [hy]) hy
          | cons c1 c => simp at e2
      · cases c with
        | nil =>
          simp at e1 e2
          obtain ⟨rfl, rfl⟩ := e2
          exact caseP hxi fun y hy => hsf y (by rw [← e1]; exact hy) hy
        | cons c0 c =>
          simp only [List.cons_append, List.cons.injEq] at e2
          obtain ⟨rfl, rfl⟩ := e2
          subst hxi
          subst e1
          have hx0 := hnot x (by rw [hl]; simp)
          have hpl : x ∈ l0 ++ [p, q] := by rw [hl]; simp
          obtain ⟨t1, σ1, h1⟩ := Inv.advances hsoftU hpA s l1 (x :: (c ++ [p, q])) t σ (by rw [hl]; simp) (by simpa using h) (fun y hy => hsf y hy (by simp [hy]))
          have hl1 : l0 ++ [p, q] = (l1 ++ s) ++ x :: (c ++ [p, q]) := by rw [hl]; simp
          cases hh : hard x.i with
          | false =>
            obtain ⟨t2, σ2, h2⟩ := Inv.advance (hUs x _ hx0.1 hx0.2) hpA hl1 h1 hh
            have hl2 : l0 ++ [p, q] = (l1 ++ s ++ [x]) ++ (c ++ [p, q]) := by rw [hl]; simp
            exact Inv.exec st0 hY hpA hl2 h2 (by simp) hi fun ρ' a' w' h' => ih _ _ c t2 σ2 ρ' a' w' (by rw [hl]; simp) (hcount hpl rfl) h'
          | true =>
            exact Inv.both (hUs x _ hx0.1 hx0.2) st0 hY hpA hl1 h1 hh hi fun t' σ' ρ' a' w' h' => ih _ _ c t' σ' ρ' a' w' (by rw [hl]; simp) (hcount hpl rfl) h'

/-- A REGION WHOSE ORDER IS DRAWN. -/
theorem CodeOk.drawn {id : Nat} (hm : P.follows .mixedOrders = true) (hX : ∀ i j, ¬ X i j) (hp : PlanOk P N ops l anc hard X) : CodeOk ro P Y N (.region id ops true) (.region ops.size l) := by
  intro Q t σ h ρ a w B Ds st ht hY hB hm'
  refine wpIn_region_any hm ?_
  have st' : St ρ σ ({ w with drawn := w.drawn + 1 } : World) := st.congr rfl
  have hno : ∀ i, ¬ Lst (Array.replicate ops.size false) i := by
    intro i hi
    have hlt := lst_lt hi
    unfold Lst at hi
    simp at hlt
    simp [Array.getD, hlt] at hi
  refine Inv.run st hY (base := σ.next) (ρ0 := ρ) (σ0 := σ) (w0 := w) (K := fun t σ => Q .normal t σ) hp (fun t' σ' ρ' a' w' hk ht' hs => ⟨t', σ', ρ', Ds, hk, ht', hs, hm'.step st hs⟩) ops.size _ [] l t (σ.bump ops.size) ρ a _ rfl (fun _ _ _ _ => hX _ _) ?_ ?_
  · have h1 := hp.len
    have h2 : unl (Array.replicate ops.size false) l ≤ l.length := List.length_filter_le _ _
    omega
  · refine ⟨h, fun p hpm => ⟨hno _, free_start st (hp.lt p hpm)⟩, fun p hpm => by simp at hpm, ht.weaken (fun i x => x.elim), ?_, Nat.le_add_right _ _, fun i hi => absurd hi (hno i), by simp⟩
    exact (Step.bump st _).congr_world rfl rfl rfl rfl
/-- The same, with two operations at its end whose order is drawn too. -/
theorem CodeOk.drawn2 {id : Nat} {l0 : List RegE} {p q : RegE} {fq fp : List (Nat × AOp)} (hm : P.follows .mixedOrders = true) (hX : X = fun i j => (i = p.i ∧ j = q.i) ∨ (i = q.i ∧ j = p.i)) (hpA : PlanOk P N ops (l0 ++ [p, q]) anc hard X) (hpB : PlanOk P N ops (l0 ++ [⟨q.i, q.o, fq⟩, ⟨p.i, p.o, fp⟩]) anc hard X)
    (hph : hard p.i = true) (hqh : hard q.i = true) : CodeOk ro P Y N (.region id ops true) (.regionX ops.size l0 p q fq fp) := by
  intro Q t σ h ρ a w B Ds st ht hY hB hm'
  refine wpIn_region_any hm ?_
  have hno : ∀ i, ¬ Lst (Array.replicate ops.size false) i := by
    intro i hi
    have hlt := lst_lt hi
    unfold Lst at hi
    simp at hlt
    simp [Array.getD, hlt] at hi
  refine Inv.run1 (base := σ.next) (ρ0 := ρ) (σ0 := σ) (w0 := w) (K := fun t σ => Q .normal t σ) st hY hX hpA hpB rfl rfl hph hqh (fun t' σ' ρ' a' w' hk ht' hs => ⟨t', σ', ρ', Ds, hk, ht', hs, hm'.step st hs⟩) ops.size _ [] l0 t (σ.bump ops.size) ρ a _ rfl ?_ ?_
  · have h1 := hpA.len
    have h2 : unl (Array.replicate ops.size false) (l0 ++ [p, q]) ≤ (l0 ++ [p, q]).length := List.length_filter_le _ _
    omega
  · refine ⟨⟨l0, rfl, h⟩, fun p hpm => ⟨hno _, free_start st (hpA.lt p hpm)⟩, fun p hpm => by simp at hpm, ht.weaken (fun i x => x.elim), ?_, Nat.le_add_right _ _, fun i hi => absurd hi (hno i), by simp⟩
    exact (Step.bump st _).congr_world rfl rfl rfl rfl
end
end Go.Vit
