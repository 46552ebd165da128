/- Each operation that changes nothing that was there: the model's run of it stands for the abstract one. Part 1: what a run comes to; values. -/
import Derived.Test.YthkehkmnfaaagaaVitC
import Derived.ChangeKeysEq
import Derived.Laws.Append
import Derived.MapKept
import Derived.Laws.StructEq
import Derived.Laws.Concat
set_option linter.unusedVariables false
set_option linter.unusedSimpArgs false
namespace Go.Vit

def updR (ρ : Ren) (id : Nat) (p : Loc) : Ren := fun b => if b = id then some p else ρ b

structure NRes (id : Nat) (ρ : Ren) (w : World) (v : AV) (ob : Option Blk) (v' : Value) (w' : World) (ρ' : Ren) : Prop where
  val : VRel ρ' v v'
  ren : ∀ b, b ≠ id → ρ' b = ρ b
  no : ob = none → ρ' = ρ
  new : ∀ k, ob = some k → ∃ m, ρ' id = some (w.heap.size, 0, m) ∧ BRel ρ' (w.heap.size, 0, m) w' k ∧ k.mut = true ∧ k.solid = true
  heap : ∀ c, c < w.heap.size → w'.heap[c]? = w.heap[c]?
  size : w.heap.size ≤ w'.heap.size
  os : w'.os = w.os
  tape : w'.tape = w.tape
  out : w'.output = w.output

theorem NRes.same {id : Nat} {ρ : Ren} {w : World} {v : AV} {v' : Value} (h : VRel ρ v v') : NRes id ρ w v none v' w ρ :=
  ⟨h, fun _ _ => rfl, fun _ => rfl, (fun k e => by cases e), fun _ _ => rfl, Nat.le_refl _, rfl, rfl, rfl⟩

theorem updR_ext {ρ : Ren} {id : Nat} {p : Loc} (h : ρ id = none) : ∀ b q, ρ b = some q → updR ρ id p b = some q := by
  intro b q e
  unfold updR
  rw [if_neg (fun x => by subst x; rw [h] at e; cases e)]
  exact e
theorem updR_self {ρ : Ren} {id : Nat} {p : Loc} : updR ρ id p id = some p := by simp [updR]

theorem NRes.alloc {id : Nat} {ρ : Ren} {w w' : World} {v : AV} {v' : Value} {c : List AV} {cs : Array Value} {e : TypeId} {fz : Nat × Nat} (hρ : ρ id = none)
    (hv : VRel (updR ρ id (w.heap.size, 0, cs.size)) v v') (hw : w'.heap = w.heap.push (.cells cs e fz)) (hlen : c.length ≤ cs.size)
    (hfz : ∀ i, i < cs.size → ¬ (fz.1 ≤ i ∧ i < fz.2)) (hr : ∀ (i : Nat) (a : AV), c[i]? = some a → ∃ u, cs[i]? = some u ∧ VRel ρ a u)
    (hos : w'.os = w.os) (htape : w'.tape = w.tape) (hout : w'.output = w.output) : NRes id ρ w v (some (.rw c)) v' w' (updR ρ id (w.heap.size, 0, cs.size)) := by
  refine ⟨hv, fun b hb => by simp [updR, hb], (by intro e; cases e), fun k e => ?_, fun c hc => ?_, ?_, hos, htape, hout⟩
  · cases e
    refine ⟨cs.size, updR_self, ⟨rfl, cs, _, fz, (by rw [hw]; exact Array.getElem?_push_size), ⟨hlen, rfl⟩, hfz, fun i a ha => ?_⟩, rfl, rfl⟩
    obtain ⟨u, hu, hr⟩ := hr i a ha
    exact ⟨u, hu, hr.mono (updR_ext hρ)⟩
  · rw [hw, Array.getElem?_push, if_neg (by omega)]
  · rw [hw]; simp

theorem heap_push_lt {w : World} {o : Obj} {c : Nat} (hc : c < w.heap.size) : (w.heap.push o)[c]? = w.heap[c]? := by
  rw [Array.getElem?_push, if_neg (by omega)]

/-- n cells that lie in a block of the abstract memory are there in the world. -/
theorem St.cells {ρ : Ren} {σ : Mem} {w : World} (st : St ρ σ w) {b o n : Nat} {c : List AV} (h : σ.cells b o n = some c) {p : Loc} (hp : ρ b = some p) :
    c.length = n ∧ ∃ cs : List Value, cs.length = n ∧ (∀ j v, cs[j]? = some v → w.cell? ⟨p.1, p.2.1 + o + j, none⟩ = some v) ∧
      ∀ (i : Nat) (a : AV) (v : Value), c[i]? = some a → cs[i]? = some v → VRel ρ a v := by
  simp only [Mem.cells, Option.bind_eq_some_iff] at h
  obtain ⟨k, hk, l, hl, h⟩ := h
  split at h
  · rename_i hle
    cases h
    have hrel := st.rel b k p hk hp
    have hlen : ((l.drop o).take n).length = n := by simp; omega
    refine ⟨hlen, ?_⟩
    have key : ∀ i a, l[i]? = some a → ∃ v, w.cell? ⟨p.1, p.2.1 + i, none⟩ = some v ∧ VRel ρ a v := by
      cases k with
      | rw c =>
        cases hl
        obtain ⟨h0, cs, e, fz, h1, _, _, h4⟩ := hrel
        intro i a ha
        obtain ⟨v, hv, hr⟩ := h4 i a ha
        exact ⟨v, by simp [World.cell?, h1, h0, hv], hr⟩
      | ro c => cases hl; exact hrel.2
      | map es cl => cases hl
    have hex : ∀ j, j < n → ∃ v, w.cell? ⟨p.1, p.2.1 + o + j, none⟩ = some v ∧ ∀ a, l[o + j]? = some a → VRel ρ a v := by
      intro j hj
      have hlt : o + j < l.length := by omega
      obtain ⟨v, hv, hr⟩ := key (o + j) l[o + j] (List.getElem?_eq_getElem hlt)
      refine ⟨v, by rw [Nat.add_assoc]; exact hv, fun a ha => ?_⟩
      rw [List.getElem?_eq_getElem hlt] at ha
      cases ha; exact hr
    let f : Nat → Value := fun j => ((w.cell? ⟨p.1, p.2.1 + o + j, none⟩).getD undef)
    refine ⟨(List.range n).map f, by simp, ?_, ?_⟩
    · intro j v hj
      simp only [List.getElem?_map] at hj
      by_cases hlt : j < n
      · obtain ⟨u, hu, _⟩ := hex j hlt
        rw [List.getElem?_range hlt] at hj
        simp [f, hu] at hj
        rw [hu, hj]
      · rw [List.getElem?_eq_none (by simpa using hlt)] at hj; cases hj
    · intro i a v ha hv
      rw [List.getElem?_take] at ha
      split at ha
      · rename_i hlt
        obtain ⟨u, hu, hr⟩ := hex i hlt
        rw [List.getElem?_drop] at ha
        rw [List.getElem?_map, List.getElem?_range hlt] at hv
        simp [f, hu] at hv
        subst hv
        exact hr a ha
      · cases ha
  · cases h

theorem VRel.asI {ρ : Ren} {x : AV} {v : Value} (h : VRel ρ x v) {i : Int} (hi : x.asI = some i) : ∃ k, v = .int k i := by
  cases h <;> simp [AV.asI] at hi
  subst hi; exact ⟨_, rfl⟩

theorem evs_rel {P : Program} {t : Tmps} {ρ : Ren} {η : Operand → Value} : ∀ {xs : List Operand} {as : List AOpd} {vs : List AV}, opds xs = some as → evs t as = some vs →
    (∀ x a v, opd x = some a → a ∈ as → a.ev t = some v → VRel ρ v (η x)) → LRel ρ vs (xs.map η).toArray
  | [], as, vs, h, he, _ => by simp [opds] at h; subst h; simp [evs] at he; subst he; exact LRel.nil ρ
  | x :: xs, as, vs, h, he, hE => by
    simp only [opds, Option.bind_eq_some_iff] at h
    obtain ⟨a, ha, l, hl, e⟩ := h
    cases e
    simp only [evs, Option.bind_eq_some_iff] at he
    obtain ⟨v, hv, us, hus, e⟩ := he
    cases e
    have ih := evs_rel (P := P) hl hus (fun x a v hx hm hv => hE x a v hx (List.mem_cons_of_mem _ hm) hv)
    have h0 := hE x a v ha (by simp) hv
    refine LRel.of_list (by have := ih.1; simp at this ⊢; exact this) fun i y z hy hz => ?_
    cases i with
    | zero => simp at hy hz; subst hy; subst hz; exact h0
    | succ i => exact ih.2 i y z (by simpa using hy) (by simpa using hz)

/-! ### Comparisons -/
theorem data_toList_eq {a b : ByteArray} : (a.data.toList == b.data.toList) = (a == b) := by
  rw [beq_toListBytes, ByteArray.toList_eq, ByteArray.toList_eq]

section
variable {P : Program} {w : World}

theorem bits_run (op : BinOp) (ho : op = .and ∨ op = .or ∨ op = .xor ∨ op = .andNot) (k : IntKind) (a b : Int) : (Op.intBits op k a b).run P w = .ok (.int k (bitsOp op k a b)) w := by
  rcases ho with rfl | rfl | rfl | rfl <;> simp [Op.intBits, bitsOp]

theorem binInt_run {op : BinOp} {k : IntKind} {a b : Int} {r : AV} (h : binInt op k a b = some r) (t : TypeId) :
    ∃ v, (binOp op t (.int k a) (.int k b)).run P w = .ok v w ∧ ∀ ρ, VRel ρ r v := by
  cases op <;> simp only [binInt, Option.some.injEq] at h
  case quo => split at h <;> cases h; rename_i hb; exact ⟨_, by simp [binOp, Op.intDiv, hb], fun _ => .int _ _⟩
  case rem => split at h <;> cases h; rename_i hb; exact ⟨_, by simp [binOp, Op.intDiv, hb], fun _ => .int _ _⟩
  case and => subst h; exact ⟨_, by simp only [binOp, ne_eq, not_true_eq_false, if_false, bits_run .and (by simp)], fun _ => .int _ _⟩
  case or => subst h; exact ⟨_, by simp only [binOp, ne_eq, not_true_eq_false, if_false, bits_run .or (by simp)], fun _ => .int _ _⟩
  case xor => subst h; exact ⟨_, by simp only [binOp, ne_eq, not_true_eq_false, if_false, bits_run .xor (by simp)], fun _ => .int _ _⟩
  case andNot => subst h; exact ⟨_, by simp only [binOp, ne_eq, not_true_eq_false, if_false, bits_run .andNot (by simp)], fun _ => .int _ _⟩
  case shl => cases h
  case shr => cases h
  all_goals
    subst h
    exact ⟨_, by simp [binOp, Op.intArith, Op.intCmp]; rfl, fun _ => by first | exact .int _ _ | exact .bool _⟩

theorem shInt_run {op : BinOp} (ho : op = .shl ∨ op = .shr) {k yk : IntKind} {a b : Int} {r : AV} (h : shInt op k a b = some r) (t : TypeId) :
    ∃ v, (binOp op t (.int k a) (.int yk b)).run P w = .ok v w ∧ ∀ ρ, VRel ρ r v := by
  unfold shInt at h
  split at h
  · cases h
  · rename_i hb
    rcases ho with rfl | rfl <;> cases h <;> exact ⟨_, by simp [binOp, Op.shift, hb], fun _ => .int _ _⟩

theorem binStr_run {op : BinOp} {a b : ByteArray} {r : AV} (h : binStr op a b = some r) (t : TypeId) :
    ∃ v, (binOp op t (.string a) (.string b)).run P w = .ok v w ∧ ∀ ρ, VRel ρ r v := by
  cases op <;> simp only [binStr, Option.some.injEq] at h
  case add =>
    split at h
    · rename_i hs
      cases h
      refine ⟨_, ?_, fun _ => .str _⟩
      have : (binOp .add t (.string a) (.string b)) = Op.stringOp .add a b := by simp [binOp]
      rw [this, run_string_add_sum w a b (by omega)]
    · cases h
  all_goals first
    | (cases h; done)
    | (subst h
       exact ⟨_, by simp only [binOp, Op.stringOp, ByteArray.toList_eq]; rfl, fun _ => .bool _⟩)

theorem eqScalar_run {tag : Nat} {x y : AV} {r : Bool} (h : eqScalar tag x y = some r) {ρ : Ren} {v u : Value} (hx : VRel ρ x v) (hy : VRel ρ y u) {t : TypeId} {d : TypeDesc} (ht : P.underlying t = some d)
    (hd : (d = .bool ∧ tag = 0) ∨ (∃ k, d = .int k ∧ tag = 1) ∨ (d = .string ∧ tag = 2)) (n : Nat) :
    (Op.equalIn (n + 1) t v u).run P w = .ok r w := by
  unfold eqScalar at h
  split at h
  · cases h; cases hx; cases hy
    obtain ⟨rfl, _⟩ | ⟨k', rfl, h⟩ | ⟨rfl, h⟩ := hd
    · simp [Op.equalIn, run_underlying ht]
    · cases h
    · cases h
  · split at h
    · rename_i hk; subst hk; cases h; cases hx; cases hy
      obtain ⟨rfl, h⟩ | ⟨k', rfl, h⟩ | ⟨rfl, h⟩ := hd
      · cases h
      · simp [Op.equalIn, run_underlying ht]
      · cases h
    · cases h
  · cases h; cases hx; cases hy
    obtain ⟨rfl, h⟩ | ⟨k', rfl, h⟩ | ⟨rfl, h⟩ := hd
    · cases h
    · cases h
    · simp only [data_toList_eq]; simp [Op.equalIn, run_underlying ht]
  · cases h

theorem run_part_scalar {t : TypeId} {d : TypeDesc} (ht : P.underlying t = some d) (hd : d = .bool ∨ (∃ k, d = .int k) ∨ d = .string) {cs : Array Value} {off : Nat} {v : Value} (hv : cs[off]? = some v) :
    (part t cs off).run P w = .ok v w := by
  have : (isAgg t).run P w = .ok false w := by
    rcases hd with rfl | ⟨k, rfl⟩ | rfl <;> simp [isAgg, run_underlying ht]
  simp [part, this, hv]

theorem eqFlat_run {ρ : Ren} {l l' : List AV} {xs ys : Array Value} (hx : LRel ρ l xs) (hy : LRel ρ l' ys) (n : Nat) : ∀ (fs : List Field) (offs : List (Nat × Nat)) (r : Bool), flatOffs P fs = some offs →
    eqFlat l l' offs = some r → (Op.eqFields (n + 1) xs ys fs).run P w = .ok r w
  | [], offs, r, hf, h => by
    simp [flatOffs] at hf; subst hf; simp [eqFlat] at h; subst h; simp [Op.eqFields]
  | f :: fs, offs, r, hf, h => by
    simp only [flatOffs, Option.bind_eq_some_iff] at hf
    obtain ⟨d, hd, os, hos, hf⟩ := hf
    split at hf
    · cases hf
    · rename_i hne
      obtain ⟨tag, e, hdt⟩ : ∃ tag, offs = (f.offset, tag) :: os ∧ ((d = .bool ∧ tag = 0) ∨ (∃ k, d = .int k ∧ tag = 1) ∨ (d = .string ∧ tag = 2)) := by
        cases d <;> simp at hf <;> subst hf <;> exact ⟨_, rfl, by simp⟩
      subst e
      simp only [eqFlat, Option.bind_eq_some_iff] at h
      obtain ⟨a, ha, b, hb, q, hq, h⟩ := h
      obtain ⟨v, hv, hav⟩ := hx.get ha
      obtain ⟨u, hu, hbu⟩ := hy.get hb
      have hsc : d = .bool ∨ (∃ k, d = .int k) ∨ d = .string := by
        rcases hdt with ⟨h, _⟩ | ⟨k, h, _⟩ | ⟨h, _⟩
        · exact .inl h
        · exact .inr (.inl ⟨k, h⟩)
        · exact .inr (.inr h)
      have p1 := run_part_scalar (w := w) hd hsc hv
      have p2 := run_part_scalar (w := w) hd hsc hu
      have p3 := eqScalar_run (w := w) hq hav hbu hd hdt n
      have ih := eqFlat_run hx hy n fs os
      simp only [Op.eqFields, ne_eq, hne, not_false_eq_true, if_true, Sem.run_bind, p1, p2, p3, Result.andThen_ok]
      cases q with
      | true => simp at h; simpa using ih r hos h
      | false => simp at h; subst h; simp

theorem equal_of {t : TypeId} {v u : Value} {q : Bool} (h : ∀ n, (Op.equalIn (n + 1) t v u).run P w = .ok q w) : (Op.equal t v u).run P w = .ok q w := h 9999

theorem bin_run {op : BinOp} {t : TypeId} {e : EqK} (he : eqKind P t = some e) {x y r : AV} (h : binV op e x y = some r) {ρ : Ren} {v u : Value} (hx : VRel ρ x v) (hy : VRel ρ y u) (X Y : Operand) :
    ∃ z, (do eqGuard op t X Y v u; binOp op t v u).run P w = .ok z w ∧ VRel ρ r z := by
  unfold binV at h
  split at h
  · cases hx; cases hy
    have hg : ∀ k k' a b, eqGuard op t X Y (.int k a) (.int k' b) = pure () := by intro k k' a b; cases op <;> rfl
    rw [hg]
    split at h
    · obtain ⟨z, h1, h2⟩ := shInt_run (P := P) (w := w) (.inl rfl) h t; exact ⟨z, by simpa using h1, h2 ρ⟩
    · obtain ⟨z, h1, h2⟩ := shInt_run (P := P) (w := w) (.inr rfl) h t; exact ⟨z, by simpa using h1, h2 ρ⟩
    · split at h
      · rename_i hk; subst hk
        obtain ⟨z, h1, h2⟩ := binInt_run (P := P) (w := w) h t; exact ⟨z, by simpa using h1, h2 ρ⟩
      · cases h
  · cases hx; cases hy
    have hg : ∀ a b, eqGuard op t X Y (.string a) (.string b) = pure () := by intro a b; cases op <;> rfl
    rw [hg]
    obtain ⟨z, h1, h2⟩ := binStr_run (P := P) (w := w) h t; exact ⟨z, by simpa using h1, h2 ρ⟩
  · rename_i hni hns
    have key : ∀ q, eqVal e x y = some q → (op = .eql ∨ op = .neq) → (eqGuard op t X Y v u).run P w = .ok () w ∧ (Op.equal t v u).run P w = .ok q w := by
      intro q hq hop
      simp only [eqKind, Option.bind_eq_some_iff] at he
      obtain ⟨d, hd, he⟩ := he
      unfold eqVal at hq
      split at hq
      · have q1 := hx.cells
        have q2 := hy.cells
        cases hx; cases hy
        cases d <;> simp at he
        rename_i fs
        obtain ⟨⟨hs1, hs2⟩, he⟩ := he
        have hfo : P.fieldsOf t = fs := by simp [Program.fieldsOf, hd]
        refine ⟨run_eqGuard_agg w op t X Y _ _ hs2, ?_⟩
        unfold Op.equal Op.maxDepth
        exact (run_equalIn_struct (P := P) w 9999 t _ _ (by rw [hfo]; exact hd) hs1).trans (by rw [hfo]; exact eqFlat_run q1 q2 9998 fs.toList _ q he hq)
      all_goals first
        | (cases hq; done)
        | (cases d <;> simp at he <;> (try (split at he <;> simp at he))
           cases hq; cases hx; cases hy
           refine ⟨by rcases hop with rfl | rfl <;> rfl, ?_⟩
           refine equal_of ?_
           intro n
           simp only [Op.equalIn, run_underlying hd, Sem.run_bind, Result.andThen_ok, Sem.run_pure]
           try rfl)
    have n1 : ∀ k a k' b, v = .int k a → u = .int k' b → False := by
      intro k a k' b e1 e2; subst e1; subst e2; cases hx; cases hy; exact hni _ _ _ _ rfl rfl
    have n2 : ∀ a b, v = .string a → u = .string b → False := by
      intro a b e1 e2; subst e1; subst e2; cases hx; cases hy; exact hns _ _ rfl rfl
    have hb1 : binOp .eql t v u = (do let q ← Op.equal t v u; pure (.bool q)) := by
      cases hx <;> cases hy <;> first | rfl | (exact (n1 _ _ _ _ rfl rfl).elim) | (exact (n2 _ _ rfl rfl).elim)
    have hb2 : binOp .neq t v u = (do let q ← Op.equal t v u; pure (.bool (!q))) := by
      cases hx <;> cases hy <;> first | rfl | (exact (n1 _ _ _ _ rfl rfl).elim) | (exact (n2 _ _ rfl rfl).elim)
    split at h
    · simp only [Option.map_eq_some_iff] at h
      obtain ⟨q, hq, rfl⟩ := h
      obtain ⟨h1, h2⟩ := key q hq (.inl rfl)
      exact ⟨.bool q, by rw [hb1]; simp [h1, h2], .bool q⟩
    · simp only [Option.map_eq_some_iff] at h
      obtain ⟨q, hq, rfl⟩ := h
      obtain ⟨h1, h2⟩ := key q hq (.inr rfl)
      exact ⟨.bool (!q), by rw [hb2]; simp [h1, h2], .bool (!q)⟩
    · cases h
end

end Go.Vit
