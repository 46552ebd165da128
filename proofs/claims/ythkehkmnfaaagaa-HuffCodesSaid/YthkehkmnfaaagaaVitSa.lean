/- A range over a function. -/
import Derived.Test.YthkehkmnfaaagaaVitS
set_option linter.unusedVariables false
set_option linter.unusedSimpArgs false
namespace Go.Vit
section
variable {P : Program} {Y : YEnv} {ro : Option Nat} {N : Nat} {ρ ρ' : Ren} {σ σ' : Mem} {t : Tmps} {a : Act} {w w' : World}

theorem heap_alloc (w : World) (o : Obj) {c : Nat} (h : c < w.heap.size) : (w.alloc o).heap[c]? = w.heap[c]? := by
  show (w.heap.push o)[c]? = _
  rw [Array.getElem?_push, if_neg (by omega)]
/-- Blocks that no memory speaks of are laid, and one number stands for the last of them. -/
theorem St.grown {w1 : World} {b l : Nat} (st : St ρ σ w) (hb : σ.next ≤ b) (hh : ∀ c < w.heap.size, w1.heap[c]? = w.heap[c]?) (hs : w.heap.size ≤ w1.heap.size) : St (fun b' => if b' = b then some (l, 0, 0) else ρ b') (σ.bump (b + 1 - σ.next)) w1 := by
  have he : ∀ b' p, ρ b' = some p → (fun b' => if b' = b then some (l, 0, 0) else ρ b') b' = some p := fun b' p h => by
    have := st.dom b' p h
    show (if b' = b then _ else _) = _
    rw [if_neg (by omega)]; exact h
  have back : ∀ b' k p, σ.get b' = some k → (fun b' => if b' = b then some (l, 0, 0) else ρ b') b' = some p → ρ b' = some p := fun b' k p hk hp => by
    have := st.live b' k hk
    change (if b' = b then _ else _) = _ at hp
    rw [if_neg (by omega)] at hp; exact hp
  refine ⟨fun b' p h => ?_, fun b' k h => ?_, fun b' k p hk hp => ?_, fun b1 b2 k1 k2 p1 p2 h1 h2 h3 h4 => st.inj b1 b2 k1 k2 p1 p2 h1 h2 (back _ _ _ h1 h3) (back _ _ _ h2 h4)⟩
  · change (if b' = b then _ else _) = _ at h
    rw [Mem.next_bump]
    split at h
    · omega
    · have := st.dom b' p h; omega
  · have := st.live b' k h
    rw [Mem.next_bump]; omega
  · have h := st.rel b' k p hk (back _ _ _ hk hp)
    refine (h.move fun hsol => hh _ (h.lt hsol)).mono he
theorem Step.grown {M : Nat → Prop} {w1 : World} {b l : Nat} (st : St ρ σ w) (hb : σ.next ≤ b) (hM : M b) (hl : w.heap.size ≤ l) (hh : ∀ c < w.heap.size, w1.heap[c]? = w.heap[c]?) (hs : w.heap.size ≤ w1.heap.size) (ho : w1.os = w.os) (ht : w1.tape = w.tape) (hout : w1.output = w.output) :
    Step M ρ σ w (fun b' => if b' = b then some (l, 0, 0) else ρ b') (σ.bump (b + 1 - σ.next)) w1 := by
  refine ⟨st.grown hb hh hs, Nat.le_add_right _ _, fun b' p h => ?_, fun b' p h h0 => ?_, fun b' k h _ => ⟨k, h, rfl⟩, fun _ _ _ => rfl, fun c hc _ => hh c hc, hs, ho, ht, hout⟩
  · have := st.dom b' p h
    show (if b' = b then _ else _) = _
    rw [if_neg (by omega)]; exact h
  · change (if b' = b then _ else _) = _ at h
    split at h
    · rename_i e
      cases h
      exact ⟨e ▸ hM, .inl hl⟩
    · rw [h0] at h; cases h
/-- A block that no memory speaks of is turned, and turned back at the end. -/
theorem Step.around {M M1 : Nat → Prop} {ρ1 ρ2 : Ren} {σ1 σ2 : Mem} {w1 w2 : World} {l : Nat} {o o1 : Obj} (h1 : Step M ρ σ w ρ1 σ1 w1) (h2 : Step M1 ρ1 σ1 (w1.putObj l o1) ρ2 σ2 w2) (hst : St ρ1 σ1 (w1.putObj l o1)) (hl : w1.heap[l]? = some o)
    (hc : ∀ cs e fz, o1 ≠ .cells cs e fz) (hm : ∀ xs c, o1 ≠ .map xs c) (hM : ∀ b, M1 b → M b) : Step M ρ σ w ρ2 σ2 (w2.putObj l o) := by
  have hlt := (Array.getElem?_eq_some_iff.1 hl).1
  have hl1 : (w1.putObj l o1).heap[l]? = some o1 := World.putObj_heap_same hlt
  have hl2 : w2.heap[l]? = some o1 := h2.still hst hl1 hc hm
  refine h1.trans (N := M) (N1 := M) (N2 := M1) ⟨h2.st.put hl2 hc hm, h2.next, h2.ext, fun b p h h0 => ?_, h2.old, h2.same, fun c hc' hno => ?_, ?_, h2.os, h2.tape, h2.out⟩ (fun _ e => e) hM
  · have := h2.fresh b p h h0
    rw [World.putObj_size] at this
    exact this
  · by_cases e : c = l
    · subst e
      rw [World.putObj_heap_same (Array.getElem?_eq_some_iff.1 hl2).1, hl]
    · rw [World.putObj_heap_other e, h2.frame c (by rw [World.putObj_size]; exact hc') hno, World.putObj_heap_other e]
  · have := h2.size
    rw [World.putObj_size] at this ⊢
    exact this
/-- Values are laid into the temporaries of a round. -/
theorem fillT_rel : ∀ (ps : List Nat) (args : List AV) (args' : List Value) (t : Tmps) (tmps : Array Value), (∀ i ∈ ps, i < N) → args.length = ps.length → args'.length = ps.length →
    (∀ (i : Nat) (x : AV) (v : Value), args[i]? = some x → args'[i]? = some v → VRel ρ x v) → TRel [] N (fun _ => False) ρ t { tmps := tmps, defers := [] } →
    TRel [] N (fun _ => False) ρ (Tmps.fill t ps args) { tmps := (ps.zip args').foldl (fun tmps (x : Nat × Value) => tmps.setIfInBounds x.1 x.2) tmps, defers := [] }
  | [], args, args', t, tmps, _, h1, h2, _, ht => by
    cases args with
    | nil => simpa [Tmps.fill] using ht
    | cons x l => simp at h1
  | i :: ps, [], _, _, _, _, h1, _, _, _ => by simp at h1
  | i :: ps, x :: args, [], _, _, _, _, h2, _, _ => by simp at h2
  | i :: ps, x :: args, v :: args', t, tmps, hp, h1, h2, hr, ht => by
    rw [Tmps.fill, List.zip_cons_cons, List.foldl_cons]
    refine fillT_rel ps args args' _ _ (fun j hj => hp j (by simp [hj])) (by simpa using h1) (by simpa using h2) (fun j y u hy hu => hr (j + 1) y u (by simpa using hy) (by simpa using hu)) ?_
    have := ht.put (d := some i) (hr 0 x v rfl rfl) (fun j e => by cases e; exact hp i (by simp))
    exact this.weaken (fun _ h => h.1)
theorem zip_fold (ps : Array Nat) (args' : Array Value) (tmps : Array Value) : (ps.zip args').foldl (fun tmps (t, a) => tmps.setIfInBounds t a) tmps = (ps.toList.zip args'.toList).foldl (fun tmps (x : Nat × Value) => tmps.setIfInBounds x.1 x.2) tmps := by
  rw [← Array.foldl_toList, Array.toList_zip]
/-- A RANGE OVER A FUNCTION. -/
theorem CodeOk.range {g : Operand} {ag : AOpd} {ps : Array Tmp} {cs bd : Code} {acs abd : ACode} (hg : opd g = some ag) (hcs : ∀ ro, CodeOk ro P noY N cs acs) (hbd : ∀ ro, CodeOk ro P noY N bd abd) (hps : ∀ i ∈ ps.toList, i < N) :
    CodeOk none P Y N (.rangeFunc g ps cs bd) (.range ag ps.toList acs abd) := by
  intro Q t σ h ρ a w B Ds st ht hY hB hm
  simp only [AW] at h
  split at h
  · rename_i f c hgev
    have hv := ht.eval hg hgev (fun _ _ x => x)
    generalize hev : a.eval g = ev at hv
    cases hv with
    | func hl0 hrel =>
      rename_i cvs
      refine wpIn_rangeFunc (F := Fc none) fun fn _ => ?_
      obtain ⟨l, hl⟩ : ∃ l, l = w.heap.size + 1 := ⟨_, rfl⟩
      obtain ⟨r, hr⟩ : ∃ r : Loop, r = { state := .ready, pending := none, fn, tmps := a.tmps, params := ps, assign := cs, body := bd, defers := w.heap.size } := ⟨_, rfl⟩
      obtain ⟨w1, hw1⟩ : ∃ w1, w1 = (w.alloc (.deferred (some []))).alloc (.loop r) := ⟨_, rfl⟩
      have hsz : w1.heap.size = w.heap.size + 2 := by rw [hw1, World.size_alloc, World.size_alloc]
      have hold : ∀ c < w.heap.size, w1.heap[c]? = w.heap[c]? := fun c hc => by
        rw [hw1, heap_alloc _ _ (by rw [World.size_alloc]; omega), heap_alloc _ _ hc]
      have hD : w1.heap[w.heap.size]? = some (.deferred (some [])) := by
        rw [hw1, heap_alloc _ _ (by rw [World.size_alloc]; omega)]; exact World.alloc_heap_new _ _
      have hloop : w1.heap[l]? = some (.loop r) := by
        rw [hw1, hl]
        have := World.alloc_heap_new (w.alloc (.deferred (some []))) (.loop r)
        rwa [World.size_alloc] at this
      have hrun := run_enterLoop_outer (P := P) (w := w) fn a.tmps ps cs bd
      rw [← hr, ← hw1, ← hl] at hrun
      have hst1 := Step.grown (M := fun b => σ.next ≤ b) (b := σ.next) (l := l) st (Nat.le_refl _) (Nat.le_refl _) (by omega) hold (by omega) (by rw [hw1]; rfl) (by rw [hw1]; rfl) (by rw [hw1]; rfl)
      rw [show σ.next + 1 - σ.next = 1 from by omega] at hst1
      obtain ⟨ρ1, hρ1⟩ : ∃ ρ1 : Ren, ρ1 = fun b' => if b' = σ.next then some (l, 0, 0) else ρ b' := ⟨_, rfl⟩
      rw [← hρ1] at hst1
      have hρb : ρ1 σ.next = some (l, 0, 0) := by rw [hρ1]; exact if_pos rfl
      refine ⟨l, [{ target := .collected w.heap.size, args := #[] }], w1, ⟨.fn (.func f) cvs, #[.func (.yield l) #[] #[]]⟩, w1, f, #[.func (.yield l) #[] #[]] ++ cvs, w1, hrun, ?_, fun _ _ => trivial, ?_, fun h => by simp [Fence.wide] at h, ?_⟩
      · simp only [resolve, rangeCall, hev, Deferred.ofValue, Sem.run_pure]
        simp [Act.eval]
      · exact callFunc_run h.1 _
      · obtain ⟨yargs, hya⟩ : ∃ x : Array Value, x = #[.func (.yield l) #[] #[]] ++ cvs := ⟨_, rfl⟩
        rw [← hya]
        have hcall := h.2 ρ1 w1 yargs hst1.st
        refine (callsIn_fc (ro := none) (n := 0)).2 (Calls.mono (hcall ?_ ?_) ?_)
        · rw [hya]
          exact LRel.append (l := [.yld σ.next]) (cs := #[.func (.yield l) #[] #[]]) ⟨rfl, fun i x v hx hv => by
            cases i with
            | zero => simp at hx hv; subst hx hv; exact .yld hρb
            | succ i => simp at hx⟩ ⟨hl0, fun i x v hx hv => (hrel i x v hx hv).mono hst1.ext⟩
        · intro b T hT
          unfold oneY at hT
          split at hT
          · rename_i e
            subst e
            cases hT
            refine ⟨l, 0, 0, r, hρb, hloop, ?_⟩
            intro ρ2 σ2 w2 args args' K hext st2 hl2 hlr ⟨hlen, hAW⟩
            have hps' : args'.size = ps.size := by rw [← hlr.1, hlen]; simp
            have hrps : r.params = ps := by rw [hr]
            refine ⟨by rw [hps', hrps], ?_⟩
            refine roundIn_of_wpIn (F := Fence.wide) trivial ?_
            have hTR : TRel (mk []) N (fun _ => False) ρ2 (Tmps.fill t ps.toList args) { tmps := (r.params.zip args').foldl (fun tmps (t, a) => tmps.setIfInBounds t a) r.tmps, defers := [] } := by
              rw [zip_fold, hrps]
              refine fillT_rel ps.toList args args'.toList t r.tmps hps hlen (by simpa using hps') (fun i x v hx hv => hlr.2 i x v hx (by simpa using hv)) ⟨rfl, ?_, fun i v hi hv => ?_⟩
              · rw [hr]; exact ht.size
              · have := (ht.get i v hi hv).mono (fun b p e => hext _ _ (hst1.ext b p e))
                rw [hr]; exact this
            have hA := hcs (some l) _ _ _ hAW ρ2 _ w2 w2.heap.size [] st2 hTR (.no P ρ2 w2) (Nat.le_refl _) ⟨List.nodup_nil, by simp⟩
            have hras : r.assign = cs := by rw [hr]
            rw [hras]
            refine wpIn_mono hA ?_
            rintro e a1 w3 ⟨t1, σ3, ρ3, Ds3, hq, ht3, hs3, hm3⟩
            cases e with
            | normal =>
              have hl3 := hs3.still st2 hl2 (by simp) (by simp)
              have hready : r.state = .ready := by rw [hr]
              refine ⟨w3.putObj l (.loop { r with state := .busy }), run_beginRound hl3 hready, ?_⟩
              have st3 := hs3.st.put (o' := .loop { r with state := .busy }) hl3 (by simp) (by simp)
              have hB3 := hbd (some l) _ _ _ hq ρ3 a1 (w3.putObj l (.loop { r with state := .busy })) w2.heap.size Ds3 st3 ht3 (.no P ρ3 _) (by rw [World.putObj_size]; exact hs3.size) ⟨hm3.1, fun D hD => ?_⟩
              · have hrbd : r.body = bd := by rw [hr]
                rw [← hrbd] at hB3
                refine wpIn_mono hB3 ?_
                rintro e a2 w4 ⟨t2, σ4, ρ4, Ds4, hq4, ht4, hs4, hm4⟩
                cases e with
                | normal =>
                  have hl4 := hs4.still st3 (World.putObj_heap_same (Array.getElem?_eq_some_iff.1 hl3).1) (by simp) (by simp)
                  have hrr : ({ r with state := .ready, pending := none } : Loop) = r := by rw [hr]
                  refine ⟨.bool true, w4.putObj l (.loop r), ?_, .bool true, .bool true, σ4, ρ4, rfl, hq4, .bool true, ?_⟩
                  · have := run_endRound (P := P) none hl4
                    simp only [Option.isNone_none, if_true] at this
                    rw [this]
                    congr 3
                  · exact hs3.around hs4 st3 hl3 (by simp) (by simp) (fun b hb => Nat.le_trans hs3.next hb)
                | _ => exact hq4.elim
              · rw [World.putObj_heap_other]
                · exact hm3.2 D hD
                · rintro rfl
                  have := (hm3.2 _ hD).2
                  rw [hl3] at this; simp at this
            | _ => exact hq.elim
          · cases hT
        · rintro e w3 ⟨v, v', σ', ρ', he, hQ, hv, hs⟩
          subst he
          have hl3 := hs.still hst1.st hloop (by simp) (by simp)
          have hD3 := hs.still hst1.st hD (by simp) (by simp)
          have hstep := hst1.trans (N := fun b => σ.next ≤ b) hs (fun _ e => e) (fun b (hb : σ.next + 1 ≤ b) => by omega)
          refine ⟨none, w3.putObj l (.loop { r with state := .exhausted }), ?_, ?_⟩
          · have := run_endLoop (P := P) hl3 (by rw [hr]; simp)
            rw [this]
            congr 1
            rw [hr]
          · refine ⟨t, σ', ρ', w.heap.size :: Ds, hQ, ⟨?_, ht.size, fun i v hi hv => (ht.get i v hi hv).mono hstep.ext⟩, hstep.put hl3 (by simp) (by simp) (by omega), ?_⟩
            · show [_] ++ a.defers = _
              rw [ht.defers]; rfl
            · have hm2 := hm.step st hstep
              refine ⟨List.nodup_cons.2 ⟨fun hD' => ?_, hm.1⟩, fun D hD' => ?_⟩
              · have := (Array.getElem?_eq_some_iff.1 (hm.2 _ hD').2).1
                omega
              · rcases List.mem_cons.1 hD' with rfl | hD'
                · refine ⟨hB, ?_⟩
                  rw [World.putObj_heap_other (by omega)]; exact hD3
                · refine ⟨(hm.2 D hD').1, ?_⟩
                  have := (Array.getElem?_eq_some_iff.1 (hm.2 _ hD').2).1
                  rw [World.putObj_heap_other (by omega)]; exact (hm2.2 D hD').2
  · exact h.elim
end
end Go.Vit
