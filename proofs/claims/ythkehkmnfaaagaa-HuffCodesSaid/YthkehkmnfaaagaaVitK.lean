/- Operations that change memory: how states go on. -/
import Derived.Test.YthkehkmnfaaagaaVitJ
set_option linter.unusedVariables false
set_option linter.unusedSimpArgs false
namespace Go.Vit
section
variable {P : Program} {w w' : World} {ρ ρ' : Ren} {σ : Mem} {id : Nat} {N : Nat → Prop}

theorem St.put_free (st : St ρ σ w) {b : Nat} (hρ : ρ b = none) (hb : b < σ.next) (o : Option Blk) : St ρ (σ.put b o) w := by
  have hne : ∀ c q, ρ c = some q → c ≠ b := fun c q h e => by subst e; rw [hρ] at h; cases h
  refine ⟨st.dom, fun c k hk => ?_, fun c k q hk hq => ?_, fun c c' k k' q q' hk hk' hq hq' hm hs hcc => ?_⟩
  · rw [Mem.get_put] at hk
    split at hk
    · rename_i e; subst e; exact hb
    · exact st.live c k hk
  · rw [Mem.get_put_ne _ (hne c q hq)] at hk; exact st.rel c k q hk hq
  · rw [Mem.get_put_ne _ (hne c q hq)] at hk
    rw [Mem.get_put_ne _ (hne c' q' hq')] at hk'
    exact st.inj c c' k k' q q' hk hk' hq hq' hm hs hcc

theorem Step.put_free (st : St ρ σ w) (hρ : ρ id = none) (hid : id < σ.next) (o : Option Blk) : Step (· = id) ρ σ w ρ (σ.put id o) w := by
  have hne : ∀ c, ρ c ≠ none → c ≠ id := fun c h e => by subst e; exact h hρ
  refine ⟨st.put_free hρ hid o, Nat.le_refl _, fun _ _ e => e, fun b p e e' => by rw [e] at e'; (cases e'), fun b k hk hb => ?_, fun b hn _ => Mem.get_put_ne _ hn _, fun _ _ _ => rfl, Nat.le_refl _, rfl, rfl, rfl⟩
  rw [Mem.get_put_ne _ (hne b hb)] at hk
  exact ⟨k, hk, rfl⟩

/-- A quiet operation, carried out where its block is known already. -/
theorem NRes.step {v : AV} {ob : Option Blk} {v' : Value} (h : NRes id ρ w v ob v' w' ρ') (st : St ρ σ w) (hρ : ρ id = none) (hid : id < σ.next) (hk : ∀ k, ob = some k → σ.get id = some k) :
    Step (· = id) ρ σ w ρ' σ w' := by
  have hext : ∀ b p, ρ b = some p → ρ' b = some p := fun b p e => by
    rw [h.ren b (fun x => by subst x; rw [hρ] at e; cases e)]; exact e
  have hcase : ∀ b p, ρ' b = some p → ρ b = some p ∨ (b = id ∧ ∃ k, ob = some k ∧ p.1 = w.heap.size ∧ BRel ρ' p w' k) := by
    intro b p e
    by_cases hb : b = id
    · subst hb
      cases ob with
      | none => rw [h.no rfl, hρ] at e; cases e
      | some k =>
        obtain ⟨m, h1, h2, _⟩ := h.new k rfl
        rw [h1] at e; cases e; exact .inr ⟨rfl, k, rfl, rfl, h2⟩
    · rw [h.ren b hb] at e; exact .inl e
  have hrel : ∀ b k p, σ.get b = some k → ρ' b = some p → BRel ρ' p w' k := by
    intro b k p hb hp
    rcases hcase b p hp with e | ⟨rfl, k', hk', hpp⟩
    · have := st.rel b k p hb e
      exact (this.mono hext).move fun hs => h.heap _ (this.lt hs)
    · have := hk k' hk'
      rw [hb] at this; cases this
      exact hpp.2
  refine ⟨⟨fun b p e => ?_, st.live, hrel, fun b b' k k' p p' hb hb' hp hp' hm hs hne => ?_⟩, Nat.le_refl _, hext, fun b p e e' => ?_, fun b k hb _ => ⟨k, hb, rfl⟩, fun _ _ _ => rfl, fun c hc _ => h.heap c hc, h.size, h.os, h.tape, h.out⟩
  · rcases hcase b p e with e | ⟨rfl, _⟩
    · exact st.dom b p e
    · exact hid
  · have hms : k.solid = true := by cases k <;> first | rfl | simp [Blk.mut] at hm
    rcases hcase b p hp with e | ⟨eb, _, _, ep, _⟩ <;> rcases hcase b' p' hp' with e' | ⟨eb', _, _, ep', _⟩
    · exact st.inj b b' k k' p p' hb hb' e e' hm hs hne
    · have := (st.rel b k p hb e).lt hms; omega
    · have := (st.rel b' k' p' hb' e').lt hs; omega
    · exact absurd (eb.trans eb'.symm) hne
  · rcases hcase b p e with e | ⟨rfl, _, _, ep, _⟩
    · rw [e'] at e; cases e
    · exact ⟨rfl, .inl (Nat.le_of_eq ep.symm)⟩

/-- A quiet operation, carried out at once. -/
theorem NRes.step_add {v : AV} {ob : Option Blk} {v' : Value} (h : NRes id ρ w v ob v' w' ρ') (st : St ρ σ w) (hρ : ρ id = none) (hid : id < σ.next) :
    Step (· = id) ρ σ w ρ' (σ.add id ob) w' := by
  cases ob with
  | none => exact h.step st hρ hid (fun k e => by cases e)
  | some k =>
    have h1 := Step.put_free st hρ hid (some k)
    exact h1.trans (h.step h1.st hρ hid (fun k' e => by cases e; exact Mem.get_put_self _ _ _)) (fun _ e => e) (fun _ e => e)

/-- A block that may be changed is changed in place. -/
theorem Step.update (st : St ρ σ w) {b : Nat} {k k' : Blk} {p : Loc} (hb : σ.get b = some k) (hm : k.mut = true) (hm' : k'.mut = true) (hp : ρ b = some p) (hrel : BRel ρ p w' k')
    (hheap : ∀ c, c ≠ p.1 → w'.heap[c]? = w.heap[c]?) (hsize : w'.heap.size = w.heap.size) (hos : w'.os = w.os) (htape : w'.tape = w.tape) (hout : w'.output = w.output) : Step N ρ σ w ρ (σ.put b (some k')) w' := by
  have hs' : k'.solid = true := by cases k' <;> first | rfl | simp [Blk.mut] at hm'
  have hs0 : k.solid = true := by cases k <;> first | rfl | simp [Blk.mut] at hm
  refine ⟨⟨st.dom, fun c q hq => ?_, fun c q r hq hr => ?_, fun c c' q q' r r' hq hq' hr hr' hmq hsq hne => ?_⟩, Nat.le_refl _, fun _ _ e => e, fun _ _ e e' => by rw [e] at e'; (cases e'), fun c q hq _ => ?_, fun c _ hc => ?_, fun c _ hno => ?_, by omega, hos, htape, hout⟩
  · rw [Mem.get_put] at hq
    split at hq
    · rename_i e; subst e; exact st.live _ _ hb
    · exact st.live c q hq
  · rw [Mem.get_put] at hq
    split at hq
    · rename_i e; subst e; cases hq; rw [hp] at hr; cases hr; exact hrel
    · rename_i e
      have h1 := st.rel c q r hq hr
      exact h1.move fun hs => hheap _ (fun x => st.inj b c k q p r hb hq hp hr hm hs (fun y => e y.symm) x.symm)
  · rw [Mem.get_put] at hq hq'
    split at hq <;> split at hq'
    · rename_i e e'; exact absurd (e.trans e'.symm) hne
    · rename_i e e'; subst e; cases hq; exact st.inj c c' k q' r r' hb hq' hr hr' hm hsq hne
    · rename_i e e'; subst e'; cases hq'; exact st.inj c c' q k r r' hq hb hr hr' hmq hs0 hne
    · exact st.inj c c' q q' r r' hq hq' hr hr' hmq hsq hne
  · rw [Mem.get_put] at hq
    split at hq
    · rename_i e; subst e; cases hq; exact ⟨k, hb, by rw [hm, hm']⟩
    · exact ⟨q, hq, rfl⟩
  · rw [Mem.get_put, if_neg]; intro e; subst e; rw [hp] at hc; cases hc
  · exact hheap c (fun e => hno b k p hb hm hp e.symm)

theorem Step.erase (st : St ρ σ w) {b : Nat} {p : Loc} (hp : ρ b = some p) : Step N ρ σ w ρ (σ.put b none) w := by
  refine ⟨⟨st.dom, fun c q hq => ?_, fun c q r hq hr => ?_, fun c c' q q' r r' hq hq' hr hr' hmq hsq hne => ?_⟩, Nat.le_refl _, fun _ _ e => e, fun _ _ e e' => by rw [e] at e'; (cases e'), fun c q hq _ => ?_, fun c _ hc => ?_, fun _ _ _ => rfl, Nat.le_refl _, rfl, rfl, rfl⟩
  · rw [Mem.get_put] at hq; split at hq
    · cases hq
    · exact st.live c q hq
  · rw [Mem.get_put] at hq; split at hq
    · cases hq
    · exact st.rel c q r hq hr
  · rw [Mem.get_put] at hq hq'; split at hq
    · cases hq
    · split at hq'
      · cases hq'
      · exact st.inj c c' q q' r r' hq hq' hr hr' hmq hsq hne
  · rw [Mem.get_put] at hq; split at hq
    · cases hq
    · exact ⟨q, hq, rfl⟩
  · rw [Mem.get_put, if_neg]; intro e; subst e; rw [hp] at hc; cases hc

/-- The row of a block that is given up is taken over by a new one. -/
theorem Step.recycle (st : St ρ σ w) {b : Nat} {k k' : Blk} {p : Loc} (hb : σ.get b = some k) (hm : k.mut = true) (hm' : k'.mut = true) (hp : ρ b = some p) (hρ : ρ id = none) (hid : id < σ.next)
    (hrel : BRel ρ p w' k') (hheap : ∀ c, c ≠ p.1 → w'.heap[c]? = w.heap[c]?) (hsize : w'.heap.size = w.heap.size) (hos : w'.os = w.os) (htape : w'.tape = w.tape) (hout : w'.output = w.output) :
    Step (· = id) ρ σ w (updR ρ id p) ((σ.put b none).put id (some k')) w' := by
  have hbid : b ≠ id := fun e => by subst e; rw [hρ] at hp; cases hp
  have hs0 : k.solid = true := by cases k <;> first | rfl | simp [Blk.mut] at hm
  have hext := updR_ext (p := p) hρ
  have hcase : ∀ c r, updR ρ id p c = some r → (c = id ∧ r = p) ∨ (c ≠ id ∧ ρ c = some r) := by
    intro c r h
    unfold updR at h
    split at h
    · rename_i e; cases h; exact .inl ⟨e, rfl⟩
    · rename_i e; exact .inr ⟨e, h⟩
  have hget : ∀ c q, ((σ.put b none).put id (some k')).get c = some q → (c = id ∧ q = k') ∨ (c ≠ id ∧ c ≠ b ∧ σ.get c = some q) := by
    intro c q h
    rw [Mem.get_put, Mem.get_put] at h
    split at h
    · rename_i e; cases h; exact .inl ⟨e, rfl⟩
    · rename_i e
      split at h
      · cases h
      · rename_i e'; exact .inr ⟨e, e', h⟩
  refine ⟨⟨fun c r h => ?_, fun c q h => ?_, fun c q r hq hr => ?_, fun c c' q q' r r' hq hq' hr hr' hmq hsq hne => ?_⟩, Nat.le_refl _, hext, fun c r e e' => ?_, fun c q hq hc => ?_, fun c hn hc => ?_, fun c _ hno => ?_, by omega, hos, htape, hout⟩
  · rcases hcase c r h with ⟨rfl, _⟩ | ⟨_, h⟩
    · exact hid
    · exact st.dom c r h
  · rcases hget c q h with ⟨rfl, _⟩ | ⟨_, _, h⟩
    · exact hid
    · exact st.live c q h
  · rcases hget c q hq with ⟨rfl, rfl⟩ | ⟨e1, e2, hq⟩
    · rw [updR_self] at hr; cases hr; exact hrel.mono hext
    · rcases hcase c r hr with ⟨e, _⟩ | ⟨_, hr⟩
      · exact absurd e e1
      · have h1 := st.rel c q r hq hr
        exact (h1.mono hext).move fun hs => hheap _ (fun x => st.inj b c k q p r hb hq hp hr hm hs (fun y => e2 y.symm) x.symm)
  · rcases hget c q hq with ⟨e0, e00⟩ | ⟨e1, e2, hq1⟩ <;> rcases hget c' q' hq' with ⟨f0, f00⟩ | ⟨e1', e2', hq2⟩
    · exact absurd (e0.trans f0.symm) hne
    · subst e0; subst e00
      rw [updR_self] at hr; cases hr
      rcases hcase c' r' hr' with ⟨e, _⟩ | ⟨_, hr2⟩
      · exact absurd e e1'
      · exact st.inj b c' k q' p r' hb hq2 hp hr2 hm hsq (fun y => e2' y.symm)
    · subst f0; subst f00
      rw [updR_self] at hr'; cases hr'
      rcases hcase c r hr with ⟨e, _⟩ | ⟨_, hr1⟩
      · exact absurd e e1
      · exact st.inj c b q k r p hq1 hb hr1 hp hmq hs0 e2
    · rcases hcase c r hr with ⟨e, _⟩ | ⟨_, hr1⟩
      · exact absurd e e1
      · rcases hcase c' r' hr' with ⟨e, _⟩ | ⟨_, hr2⟩
        · exact absurd e e1'
        · exact st.inj c c' q q' r r' hq1 hq2 hr1 hr2 hmq hsq hne
  · rcases hcase c r e with ⟨rfl, rfl⟩ | ⟨_, h⟩
    · exact ⟨rfl, .inr ⟨b, k, r, hb, hm, hp, rfl⟩⟩
    · rw [e'] at h; cases h
  · rcases hget c q hq with ⟨rfl, rfl⟩ | ⟨e1, e2, hq⟩
    · exact absurd hρ hc
    · exact ⟨q, hq, rfl⟩
  · rw [Mem.get_put_ne _ hn, Mem.get_put_ne]; intro e; subst e; rw [hp] at hc; cases hc
  · exact hheap c (fun e => hno b k p hb hm hp e.symm)

/-! ### Storing a row of cells -/
def setArr (cs : Array Value) (off : Nat) : List Value → Array Value
  | [] => cs
  | v :: vs => setArr (cs.setIfInBounds off v) (off + 1) vs
theorem setArr_size : ∀ (vs : List Value) (cs : Array Value) (off : Nat), (setArr cs off vs).size = cs.size
  | [], _, _ => rfl
  | v :: vs, cs, off => by simp [setArr, setArr_size vs]

theorem run_storeBlock (g o : Nat) (e : TypeId) (fz : Nat × Nat) : ∀ (vs : List Value) (i : Nat) (cs : Array Value) (w : World), w.heap[g]? = some (.cells cs e fz) → (∀ j, j < cs.size → ¬ (fz.1 ≤ j ∧ j < fz.2)) →
    o + i + vs.length ≤ cs.size → (∀ v ∈ vs, v.oneCell' = true) →
    ∃ w', (storeCells ⟨g, o, none⟩ vs i).run P w = .ok () w' ∧ w'.heap[g]? = some (.cells (setArr cs (o + i) vs) e fz) ∧ (∀ c, c ≠ g → w'.heap[c]? = w.heap[c]?) ∧ w'.heap.size = w.heap.size ∧ w'.os = w.os ∧ w'.tape = w.tape ∧ w'.output = w.output
  | [], i, cs, w, h, _, _, _ => ⟨w, rfl, h, fun _ _ => rfl, rfl, rfl, rfl, rfl⟩
  | v :: vs, i, cs, w, h, hfz, hlen, h1 => by
    simp only [List.length_cons] at hlen
    have hlt : o + i < cs.size := by omega
    have hcell : w.cell? ⟨g, o + i, none⟩ = some cs[o + i] := by simp [World.cell?, h, hlt]
    have hfr : w.frozen? ⟨g, o + i, none⟩ = false := by
      have := hfz (o + i) hlt
      simp only [World.frozen?, h]
      simp only [Bool.and_eq_false_iff, decide_eq_false_iff_not]
      omega
    have hst : (store ((⟨g, o, none⟩ : Addr).add i) v).run P w = .ok () (w.setCell ⟨g, o + i, none⟩ v) := by
      rw [add_at, run_store P w _ v _ (h1 v (by simp))]
      simp [hcell, hfr]
    have hh : (w.setCell ⟨g, o + i, none⟩ v).heap[g]? = some (.cells (cs.setIfInBounds (o + i) v) e fz) := by
      simp [World.setCell, Array.getElem?_modify, h]
    obtain ⟨w', h2, h3, h4, h5, h6, h7, h8⟩ := run_storeBlock g o e fz vs (i + 1) (cs.setIfInBounds (o + i) v) (w.setCell ⟨g, o + i, none⟩ v) hh (fun j hj => hfz j (by simpa using hj)) (by simp; omega) (fun x hx => h1 x (by simp [hx]))
    refine ⟨w', ?_, by rw [h3]; rfl, fun c hc => ?_, ?_, h6, h7, h8⟩
    · simp only [storeCells, Sem.run_bind, hst, Result.andThen_ok, h2]
    · rw [h4 c hc]; show (w.heap.modify g _)[c]? = _; rw [Array.getElem?_modify, if_neg (fun x => hc x.symm)]
    · rw [h5]; simp [World.setCell]

def PRel (ρ : Ren) (c : List AV) (cs : Array Value) : Prop := c.length ≤ cs.size ∧ ∀ (i : Nat) (a : AV), c[i]? = some a → ∃ v, cs[i]? = some v ∧ VRel ρ a v
theorem LRel.pre {c : List AV} {cs : Array Value} (h : LRel ρ c cs) : PRel ρ c cs := ⟨Nat.le_of_eq h.1, fun i a ha => h.get ha⟩
theorem PRel.setAt : ∀ (vc : List AV) (vs : List Value) (c : List AV) (cs : Array Value) (off : Nat), PRel ρ c cs → LRel ρ vc vs.toArray → off + vc.length ≤ cs.size → PRel ρ (setAt c off vc) (setArr cs off vs)
  | [], [], c, cs, off, h, _, _ => h
  | [], _ :: _, _, _, _, _, hl, _ => by have := hl.1; simp at this
  | _ :: _, [], _, _, _, _, hl, _ => by have := hl.1; simp at this
  | a :: vc, v :: vs, c, cs, off, h, hl, hle => by
    simp only [List.length_cons] at hle
    have h0 : VRel ρ a v := hl.2 0 a v rfl (by simp)
    have hl' : LRel ρ vc vs.toArray := ⟨by have := hl.1; simpa using this, fun i a v ha hv => hl.2 (i + 1) a v (by simpa using ha) (by simpa using hv)⟩
    have h1 : PRel ρ (c.set off a) (cs.setIfInBounds off v) := by
      refine ⟨by simpa using h.1, fun i x hx => ?_⟩
      by_cases hi : off = i
      · subst hi
        rw [List.getElem?_set_self'] at hx
        have hlt : off < cs.size := by omega
        refine ⟨v, by simp [hlt], ?_⟩
        cases e : c[off]? with
        | none => rw [e] at hx; cases hx
        | some z => rw [e] at hx; cases hx; exact h0
      · rw [List.getElem?_set_ne hi] at hx
        rw [Array.getElem?_setIfInBounds_ne hi]
        exact h.2 i x hx
    exact PRel.setAt vc vs _ _ (off + 1) h1 hl' (by simp; omega)
theorem BRel.rw_inv {p : Loc} {c : List AV} (h : BRel ρ p w (.rw c)) : p.2.1 = 0 ∧ ∃ cs e fz, w.heap[p.1]? = some (.cells cs e fz) ∧ PRel ρ c cs ∧ cs.size = p.2.2 ∧ ∀ i, i < cs.size → ¬ (fz.1 ≤ i ∧ i < fz.2) := by
  obtain ⟨h0, cs, e, fz, h1, h2, h3, h4⟩ := h
  exact ⟨h0, cs, e, fz, h1, ⟨h2.1, h4⟩, h2.2, h3⟩
theorem BRel.rw_mk {p : Loc} {c : List AV} (h0 : p.2.1 = 0) {cs : Array Value} {e : TypeId} {fz : Nat × Nat} (h1 : w.heap[p.1]? = some (.cells cs e fz)) (h2 : PRel ρ c cs) (hm : cs.size = p.2.2) (h3 : ∀ i, i < cs.size → ¬ (fz.1 ≤ i ∧ i < fz.2)) : BRel ρ p w (.rw c) :=
  ⟨h0, cs, e, fz, h1, ⟨h2.1, hm⟩, h3, h2.2⟩
theorem LRel.oneCell {c : List AV} {vs : List Value} (h : LRel ρ c vs.toArray) (h1 : c.all AV.one = true) : ∀ v ∈ vs, v.oneCell' = true := by
  intro v hv
  obtain ⟨i, hi, rfl⟩ := List.getElem_of_mem hv
  have hi' : i < c.length := by have := h.1; simp at this; omega
  have hr := h.2 i c[i] vs[i] (List.getElem?_eq_getElem hi') (by simp [hi])
  have := hr.not_agg (List.all_eq_true.1 h1 _ (List.getElem_mem hi'))
  cases e : vs[i] <;> simp_all [Value.oneCell']
end
end Go.Vit
