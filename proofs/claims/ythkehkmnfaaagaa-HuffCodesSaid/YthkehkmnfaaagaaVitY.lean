/- Arguments: data of booleans, integers, strings, slices, structs and arrays, as abstract values over blocks that are only read. -/
import Derived.Test.YthkehkmnfaaagaaVitX
import Derived.DataReads
import Derived.ChangeArms
import Derived.OpenShut
import Derived.Carry
import Derived.Below
import GoSem.ClaimChange
import GoSem.ClaimJoined
set_option linter.unusedVariables false
set_option linter.unusedSimpArgs false
namespace Go.Vit

/-- What is known of the cells of an argument of a type. -/
inductive Wt (P : Program) (σ : Mem) : TypeId → List AV → Prop
  | bool {t : TypeId} (b : Bool) (h : P.underlying t = some .bool) : Wt P σ t [.bool b]
  | int {t : TypeId} {k : IntKind} {n : Int} (h : P.underlying t = some (.int k)) (hn : (Lit.int k n).wf = true) : Wt P σ t [.int k n]
  | str {t : TypeId} {s : ByteArray} (h : P.underlying t = some .string) (hs : s.size ≤ reachBytes) : Wt P σ t [.str s]
  | nils {t e : TypeId} (h : P.underlying t = some (.slice e)) : Wt P σ t [.nils]
  | slice {t e : TypeId} {b n : Nat} {c : List AV} (h : P.underlying t = some (.slice e)) (hg : σ.get b = some (.ro c)) (hn : n * P.bytesOf e ≤ reachBytes) (hc : c.length = n * P.cellsOf e)
      (he : ∀ i, i < n → Wt P σ e ((c.drop (i * P.cellsOf e)).take (P.cellsOf e))) : Wt P σ t [.slice b 0 n (.op 0)]
  | struct {t : TypeId} {fs : Array Field} {c : List AV} (h : P.underlying t = some (.struct fs)) (hc : c.length = P.cellsOf t)
      (he : ∀ f ∈ fs.toList, Wt P σ f.type ((c.drop f.offset).take (P.cellsOf f.type))) : Wt P σ t c
  | array {t e : TypeId} {n : Nat} {c : List AV} (h : P.underlying t = some (.array n e)) (hc : c.length = P.cellsOf t)
      (he : ∀ i, i < n → Wt P σ e ((c.drop (i * P.cellsOf e)).take (P.cellsOf e))) : Wt P σ t c
theorem Wt.mono {P : Program} {σ σ' : Mem} (hs : ∀ b k, σ.get b = some k → σ'.get b = some k) {t : TypeId} {l : List AV} (h : Wt P σ t l) : Wt P σ' t l := by
  induction h with
  | bool b h => exact .bool b h
  | int h hn => exact .int h hn
  | str h hs => exact .str h hs
  | nils h => exact .nils h
  | slice h hg hn hc _ ih => exact .slice h (hs _ _ hg) hn hc ih
  | struct h hc _ ih => exact .struct h hc ih
  | array h hc _ ih => exact .array h hc ih

def tiles (off : Nat) (tot : Nat) : List (Nat × Nat) → Bool
  | [] => Nat.beq off tot
  | p :: r => Nat.beq p.1 off && tiles (off + p.2) tot r
/-- A type of which such data are. -/
def impT (P : Program) : Nat → TypeId → Bool
  | 0, _ => false
  | n + 1, t => match P.underlying t with
    | some .bool => true
    | some (.int _) => true
    | some .string => true
    | some (.slice e) => decide (0 < P.cellsOf e) && impT P n e
    | some (.struct fs) => tiles 0 (P.cellsOf t) (fs.toList.map fun f => (f.offset, P.cellsOf f.type)) && fs.toList.all fun f => impT P n f.type
    | some (.array k e) => Nat.beq (k * P.cellsOf e) (P.cellsOf t) && impT P n e
    | _ => false

theorem tiles_le : ∀ {os : List (Nat × Nat)} {off tot : Nat}, tiles off tot os = true → off ≤ tot ∧ ∀ p ∈ os, off ≤ p.1 ∧ p.1 + p.2 ≤ tot
  | [], off, tot, h => ⟨by have := Nat.eq_of_beq_eq_true h; omega, fun p hp => by simp at hp⟩
  | q :: r, off, tot, h => by
    simp only [tiles, Bool.and_eq_true] at h
    have e := Nat.eq_of_beq_eq_true h.1
    obtain ⟨h1, h2⟩ := tiles_le h.2
    refine ⟨by omega, fun p hp => ?_⟩
    rcases List.mem_cons.1 hp with rfl | hp
    · exact ⟨by omega, by omega⟩
    · have := h2 p hp; exact ⟨by omega, this.2⟩
/-- Pieces side by side. -/
theorem tiles_piece : ∀ {os : List (Nat × Nat)} {off tot : Nat} {ls : List (List AV)}, tiles off tot os = true → ls.length = os.length →
    (∀ (i : Nat) (p : Nat × Nat) (l : List AV), os[i]? = some p → ls[i]? = some l → l.length = p.2) →
    ls.flatten.length = tot - off ∧ ∀ (i : Nat) (p : Nat × Nat) (l : List AV), os[i]? = some p → ls[i]? = some l → (ls.flatten.drop (p.1 - off)).take p.2 = l
  | [], off, tot, ls, h, hl, _ => by
    have := Nat.eq_of_beq_eq_true h
    obtain rfl : ls = [] := List.eq_nil_of_length_eq_zero hl
    exact ⟨by simp; omega, fun i p l hp => by simp at hp⟩
  | q :: r, off, tot, ls, h, hl, hs => by
    simp only [tiles, Bool.and_eq_true] at h
    have e := Nat.eq_of_beq_eq_true h.1
    match ls, hl with
    | l0 :: ls, hl =>
      have hl0 : l0.length = q.2 := hs 0 q l0 rfl rfl
      have hle := tiles_le h.2
      obtain ⟨h1, h2⟩ := tiles_piece (ls := ls) h.2 (by simpa using hl) fun i p l hp hl => hs (i + 1) p l (by simpa using hp) (by simpa using hl)
      refine ⟨by rw [List.flatten_cons, List.length_append, hl0, h1]; omega, fun i p l hp hlx => ?_⟩
      cases i with
      | zero =>
        simp at hp hlx
        subst hp; subst hlx
        rw [e, Nat.sub_self, List.drop_zero, List.flatten_cons, ← hl0, List.take_left]
      | succ i =>
        simp at hp hlx
        have := h2 i p l hp hlx
        have hp1 := (hle.2 p (List.mem_of_getElem? hp)).1
        rw [List.flatten_cons, ← this]
        congr 1
        rw [show p.1 - off = l0.length + (p.1 - (off + q.2)) from by omega, ← List.drop_drop, List.drop_left]
theorem tiles_range (n s off : Nat) : ∀ k, k ≤ n → tiles (off + (n - k) * s) (off + n * s) ((List.range' (n - k) k).map fun i => (off + i * s, s)) = true := by
  intro k
  induction k with
  | zero => intro _; simp [tiles]
  | succ k ih =>
    intro hk
    have e : n - (k + 1) + 1 = n - k := by omega
    rw [List.range'_succ, List.map_cons]
    simp only [tiles, Bool.and_eq_true]
    refine ⟨by simp, ?_⟩
    have := ih (by omega)
    rw [e]
    have e2 : off + (n - (k + 1)) * s + s = off + (n - k) * s := by
      rw [← e, Nat.add_mul, Nat.one_mul]; omega
    rw [e2]; exact this
theorem LRel.flatten {ρ : Ren} : ∀ {ls : List (List AV)} {cs : List (List Value)}, ls.length = cs.length → (∀ (i : Nat) (l : List AV) (c : List Value), ls[i]? = some l → cs[i]? = some c → LRel ρ l c.toArray) → LRel ρ ls.flatten cs.flatten.toArray
  | [], [], _, _ => LRel.nil ρ
  | l :: ls, c :: cs, h, hh => by
    have h1 := hh 0 l c rfl rfl
    have h2 := LRel.flatten (ls := ls) (cs := cs) (by simpa using h) fun i l c hl hc => hh (i + 1) l c (by simpa using hl) (by simpa using hc)
    have := h1.append h2
    simpa using this
  | [], _ :: _, h, _ => by simp at h
  | _ :: _, [], h, _ => by simp at h
theorem tiles_values : ∀ {os : List (Nat × Nat)} {off tot : Nat} (cs : List Value), tiles off tot os = true → cs.length = tot → (os.map fun p => (cs.drop p.1).take p.2).flatten = cs.drop off
  | [], off, tot, cs, h, hc => by
    have := Nat.eq_of_beq_eq_true h
    simp; omega
  | q :: r, off, tot, cs, h, hc => by
    simp only [tiles, Bool.and_eq_true] at h
    have e := Nat.eq_of_beq_eq_true h.1
    rw [List.map_cons, List.flatten_cons, tiles_values cs h.2 hc, e]
    have : cs.drop (off + q.2) = (cs.drop off).drop q.2 := by rw [List.drop_drop]
    rw [this, List.take_append_drop]

def Mem.Ro (σ : Mem) : Prop := ∀ b k, σ.get b = some k → k.mut = false
/-- From one memory of blocks that are only read to a greater one. -/
structure More (ρ : Ren) (σ : Mem) (w : World) (ρ' : Ren) (σ' : Mem) : Prop where
  st : St ρ' σ' w
  ro : σ'.Ro
  ext : ∀ b p, ρ b = some p → ρ' b = some p
  keep : ∀ b k, σ.get b = some k → σ'.get b = some k
theorem More.refl {ρ : Ren} {σ : Mem} {w : World} (h : St ρ σ w) (hr : σ.Ro) : More ρ σ w ρ σ := ⟨h, hr, fun _ _ e => e, fun _ _ e => e⟩
theorem More.trans {ρ ρ' ρ'' : Ren} {σ σ' σ'' : Mem} {w : World} (h : More ρ σ w ρ' σ') (h' : More ρ' σ' w ρ'' σ'') : More ρ σ w ρ'' σ'' :=
  ⟨h'.st, h'.ro, fun b p e => h'.ext b p (h.ext b p e), fun b k e => h'.keep b k (h.keep b k e)⟩
theorem More.add {ρ : Ren} {σ : Mem} {w : World} (st : St ρ σ w) (hr : σ.Ro) (c : List AV) (p : Loc) (hb : BRel ρ p w (.ro c)) :
    More ρ σ w (fun b => if b = σ.next then some p else ρ b) ((σ.put σ.next (some (.ro c))).bump 1) := by
  have hn : ρ σ.next = none := by
    cases e : ρ σ.next with
    | none => rfl
    | some q => have := st.dom _ _ e; omega
  have hg : σ.get σ.next = none := by
    cases e : σ.get σ.next with
    | none => rfl
    | some q => have := st.live _ _ e; omega
  have hext : ∀ b q, ρ b = some q → (if b = σ.next then some p else ρ b) = some q := fun b q e => by
    rw [if_neg (by intro e'; subst e'; rw [hn] at e; cases e)]; exact e
  have hkeep : ∀ b k, σ.get b = some k → ((σ.put σ.next (some (.ro c))).bump 1).get b = some k := fun b k e => by
    rw [Mem.get_bump, Mem.get_put, if_neg (by intro e'; subst e'; rw [hg] at e; cases e)]; exact e
  have hro : ((σ.put σ.next (some (.ro c))).bump 1).Ro := by
    intro b k h
    rw [Mem.get_bump, Mem.get_put] at h
    split at h
    · cases h; rfl
    · exact hr b k h
  refine ⟨⟨fun b q h => ?_, fun b k h => ?_, fun b k q h hq => ?_, fun b b' k k' q q' h h' hq hq' hm => ?_⟩, hro, hext, hkeep⟩
  · simp only [Mem.next_bump, Mem.next_put]
    split at h
    · omega
    · have := st.dom _ _ h; omega
  · simp only [Mem.next_bump, Mem.next_put]
    rw [Mem.get_bump, Mem.get_put] at h
    split at h
    · omega
    · have := st.live _ _ h; omega
  · rw [Mem.get_bump, Mem.get_put] at h
    split at h
    · rename_i e
      rw [if_pos e] at hq
      cases h; cases hq
      exact hb.mono hext
    · rename_i e
      rw [if_neg e] at hq
      exact (st.rel b k q h hq).mono hext
  · rw [hro b k h] at hm; cases hm

section
variable {H : Type} {enc : TypeId × Value → H} {P : Program} {w : World}

/-- One item after another. -/
theorem imp_items {items : List (TypeId × List Value)}
    (h : ∀ x ∈ items, ∀ ρ σ, St ρ σ w → σ.Ro → ∃ ρ' σ' l, More ρ σ w ρ' σ' ∧ LRel ρ' l x.2.toArray ∧ Wt P σ' x.1 l) :
    ∀ ρ σ, St ρ σ w → σ.Ro → ∃ (ρ' : Ren) (σ' : Mem) (ls : List (List AV)), More ρ σ w ρ' σ' ∧ ls.length = items.length ∧ ∀ (i : Nat) (x : TypeId × List Value) (l : List AV), items[i]? = some x → ls[i]? = some l → LRel ρ' l x.2.toArray ∧ Wt P σ' x.1 l := by
  induction items with
  | nil => exact fun ρ σ st hr => ⟨ρ, σ, [], .refl st hr, rfl, fun i x l hx => by simp at hx⟩
  | cons y items ih =>
    intro ρ σ st hr
    obtain ⟨ρ1, σ1, l, m1, hl, hw⟩ := h y (by simp) ρ σ st hr
    obtain ⟨ρ2, σ2, ls, m2, hlen, hall⟩ := ih (fun x hx => h x (by simp [hx])) ρ1 σ1 m1.st m1.ro
    refine ⟨ρ2, σ2, l :: ls, m1.trans m2, by simp [hlen], fun i x l' hx hl' => ?_⟩
    cases i with
    | zero =>
      simp at hx hl'
      subst hx; subst hl'
      exact ⟨hl.mono m2.ext, hw.mono m2.keep⟩
    | succ i => exact hall i x l' (by simpa using hx) (by simpa using hl')

theorem weightsAll_mem {e : TypeId} : ∀ {l : List (DataW H)}, (DataW.weightsAll P e l).all (· ≤ reachBytes) = true → ∀ d ∈ l, (d.weights P e).all (· ≤ reachBytes) = true
  | [], _, d, hd => by simp at hd
  | x :: l, h, d, hd => by
    rw [DataW.weightsAll, List.all_append, Bool.and_eq_true] at h
    rcases List.mem_cons.1 hd with rfl | hd
    · exact h.1
    · exact weightsAll_mem h.2 d hd
theorem weightsEach_get : ∀ {ts : List TypeId} {l : List (DataW H)}, (DataW.weightsEach P ts l).all (· ≤ reachBytes) = true → ∀ (i : Nat) (t : TypeId) (d : DataW H), ts[i]? = some t → l[i]? = some d → (d.weights P t).all (· ≤ reachBytes) = true
  | [], _, _, i, t, d, ht, _ => by simp at ht
  | _ :: _, [], _, i, t, d, _, hd => by simp at hd
  | t0 :: ts, d0 :: l, h, i, t, d, ht, hd => by
    rw [DataW.weightsEach, List.all_append, Bool.and_eq_true] at h
    cases i with
    | zero => simp at ht hd; subst ht; subst hd; exact h.1
    | succ i => exact weightsEach_get h.2 i t d (by simpa using ht) (by simpa using hd)
theorem imp_trod : ∀ (fuel n : Nat) (t : TypeId) (cs : List Value) (d : DataW H) (ps : List MemPlace), DataW.trod enc P w 0 (fun _ => true) true fuel t cs = some (d, ps) → impT P n t = true → (d.weights P t).all (· ≤ reachBytes) = true →
    ∀ ρ σ, St ρ σ w → σ.Ro → ∃ ρ' σ' l, More ρ σ w ρ' σ' ∧ LRel ρ' l cs.toArray ∧ Wt P σ' t l := by
  intro fuel
  induction fuel with
  | zero => intro n t cs d ps h; simp [DataW.trod] at h
  | succ fuel ih =>
    intro n t cs d ps h hT hwt ρ σ st hr
    cases n with
    | zero => simp [impT] at hT
    | succ n =>
      have one : ∀ {ρ : Ren} {x : AV} {v : Value}, cs = [v] → VRel ρ x v → LRel ρ [x] cs.toArray := by
        intro ρ x v e hv
        subst e
        exact .of_list rfl fun i a u ha hu => by
          cases i with
          | zero => simp at ha hu; subst ha; subst hu; exact hv
          | succ i => simp at ha
      have h0 := h
      unfold impT at hT
      unfold DataW.trod at h
      cases hu : P.underlying t with
      | none => rw [hu] at hT; cases hT
      | some u =>
        rw [hu] at h hT
        cases u <;> dsimp only at hT <;> first | exact Bool.noConfusion (show false = true from hT) | skip
        case bool =>
          obtain ⟨b, e, _⟩ := DataW.trod_bool hu h0
          exact ⟨ρ, σ, [.bool b], .refl st hr, one e (.bool b), .bool b hu⟩
        case int k =>
          obtain ⟨m, e, _, hw⟩ := DataW.trod_int hu h0
          exact ⟨ρ, σ, [.int k m], .refl st hr, one e (.int k m), .int hu hw⟩
        case string =>
          obtain ⟨s, e, e2, _⟩ := DataW.trod_string hu h0
          simp only [Prod.mk.injEq] at e2
          obtain ⟨rfl, _⟩ := e2
          have hs : s.size ≤ reachBytes := by simpa [DataW.weights] using hwt
          exact ⟨ρ, σ, [.str s], .refl st hr, one e (.str s), .str hu hs⟩
        case slice e =>
          simp only [Bool.and_eq_true, decide_eq_true_eq] at hT
          have hsz : 0 < P.cellsOf e := hT.1
          match cs, h with
          | [.slice none 0 0], h =>
            exact ⟨ρ, σ, [.nils], .refl st hr, one rfl .nils, .nils hu⟩
          | [.slice (some a) len cap], h =>
            dsimp only at h
            split at h
            · rename_i hc
              have hc0 := hc
              simp only [Option.bind_eq_some_iff, if_true, Option.map_eq_some_iff] at h
              obtain ⟨elems, he, rest, hrest, hd⟩ := h
              simp only [Prod.mk.injEq] at hd
              obtain ⟨hd, _⟩ := hd
              have hwt0 := hwt
              rw [← hd, DataW.weights, hu] at hwt0
              simp only [List.all_cons, List.all_append, Bool.and_eq_true, List.length_map, decide_eq_true_eq] at hwt0
              obtain ⟨hwn, hwe, hwr⟩ := hwt0
              have hlenE := mapM_some_length he
              have hlenR := mapM_some_length hrest
              rw [List.length_range] at hlenE hlenR
              have hcell : ∀ (i : Nat), i < cap → ∃ c y, w.cells? 0 (a.add (i * P.cellsOf e)) (P.cellsOf e) = some c ∧ DataW.trod enc P w 0 (fun _ => true) true fuel e c = some y ∧ (y.1.weights P e).all (· ≤ reachBytes) = true := by
                intro i hi
                have : ∃ y, (w.cells? 0 (a.add (i * P.cellsOf e)) (P.cellsOf e)).bind (DataW.trod enc P w 0 (fun _ => true) true fuel e) = some y ∧ (y.1.weights P e).all (· ≤ reachBytes) = true := by
                  rcases Nat.lt_or_ge i len with h1 | h1
                  · have := mapM_some_get he i i (by simp [h1])
                    have hl := mapM_some_length he
                    rw [List.length_range] at hl
                    rw [this, List.getElem?_eq_getElem (by omega)]
                    exact ⟨_, rfl, weightsAll_mem hwe _ (List.mem_map_of_mem (List.getElem_mem _))⟩
                  · have := mapM_some_get hrest (i - len) (i - len) (by rw [List.getElem?_range (by omega)])
                    have hl := mapM_some_length hrest
                    rw [List.length_range] at hl
                    rw [show len + (i - len) = i from by omega] at this
                    rw [this, List.getElem?_eq_getElem (by omega)]
                    exact ⟨_, rfl, weightsAll_mem hwr _ (List.mem_map_of_mem (List.getElem_mem _))⟩
                obtain ⟨y, hy, hyw⟩ := this
                rw [Option.bind_eq_some_iff] at hy
                obtain ⟨c, hc, hy⟩ := hy
                exact ⟨c, y, hc, hy, hyw⟩
              have hadd : ∀ i j, (a.add i).add j = a.add (i + j) := by
                intro i j
                unfold Addr.add
                by_cases h1 : i = 0 <;> by_cases h2 : j = 0 <;> simp [h1, h2]
                · omega
              have hspot : cap ≠ 0 → a.spot = none := by
                intro h0
                obtain ⟨c, y, h1, h2, hyw⟩ := hcell 0 (by omega)
                obtain ⟨_, _, h3⟩ := World.cells?_some h1
                have := h3 0 hsz
                have hl := (World.cells?_some h1).2.1
                rw [List.getElem?_eq_getElem (by omega)] at this
                have := World.cell?_spot this
                simpa [Addr.add] using this
              let items : List (TypeId × List Value) := (List.range len).map fun i => (e, (w.cells? 0 (a.add (i * P.cellsOf e)) (P.cellsOf e)).getD [])
              have hit : ∀ x ∈ items, ∀ ρ σ, St ρ σ w → σ.Ro → ∃ ρ' σ' l, More ρ σ w ρ' σ' ∧ LRel ρ' l x.2.toArray ∧ Wt P σ' x.1 l := by
                intro x hx ρ σ st hr
                obtain ⟨i, hi, rfl⟩ := List.mem_map.1 hx
                obtain ⟨c, y, h1, h2, hyw⟩ := hcell i (by have := List.mem_range.1 hi; omega)
                simp only [h1, Option.getD_some]
                exact ih n e c y.1 y.2 h2 hT.2 hyw ρ σ st hr
              obtain ⟨ρ1, σ1, ls, m1, hlen, hall⟩ := imp_items hit ρ σ st hr
              simp only [items, List.length_map, List.length_range] at hlen
              have hitem : ∀ i c, i < len → w.cells? 0 (a.add (i * P.cellsOf e)) (P.cellsOf e) = some c → items[i]? = some (e, c) := by
                intro i c hi hc
                simp only [items, List.getElem?_map, List.getElem?_range hi, Option.map_some, hc, Option.getD_some]
              have hlsz : ∀ (i : Nat) (l : List AV), ls[i]? = some l → l.length = P.cellsOf e := by
                intro i l hl
                have hi : i < len := by have := (List.getElem?_eq_some_iff.1 hl).1; omega
                obtain ⟨c, y, h1, h2, hyw⟩ := hcell i (by omega)
                have := (hall i _ l (hitem i c hi h1) hl).1.1
                have h3 := (World.cells?_some h1).2.1
                simp at this
                omega
              have htile := tiles_range len (P.cellsOf e) 0 len (Nat.le_refl _)
              simp only [Nat.sub_self, Nat.zero_mul, Nat.zero_add, Nat.add_zero] at htile
              obtain ⟨hfl, hpiece⟩ := tiles_piece (ls := ls) htile (by simp [hlen]) (fun i p l hp hl => by
                simp only [List.getElem?_map, Option.map_eq_some_iff] at hp
                obtain ⟨k, _, rfl⟩ := hp
                exact hlsz i l hl)
              have hro : BRel ρ1 (a.block, a.off, 0) w (.ro ls.flatten) := by
                have hc : ∀ (j : Nat) (x : AV), ls.flatten[j]? = some x → ∃ v, w.cell? ⟨a.block, a.off + j, none⟩ = some v ∧ VRel ρ1 x v := by
                  intro j x hj
                  have hjl : j < ls.flatten.length := (List.getElem?_eq_some_iff.1 hj).1
                  have hi : j / P.cellsOf e < len := by
                    rw [Nat.div_lt_iff_lt_mul hsz]; omega
                  obtain ⟨l, hl⟩ : ∃ l, ls[j / P.cellsOf e]? = some l := ⟨_, List.getElem?_eq_getElem (by omega)⟩
                  obtain ⟨c, y, h1, h2, hyw⟩ := hcell (j / P.cellsOf e) (by omega)
                  have hpc := hpiece (j / P.cellsOf e) (j / P.cellsOf e * P.cellsOf e, P.cellsOf e) l (by
                    rw [List.getElem?_map, List.getElem?_range' hi]
                    simp) hl
                  simp only [Nat.sub_zero] at hpc
                  have hrel := (hall _ _ l (hitem _ c hi h1) hl).1
                  have hmod : j % P.cellsOf e < P.cellsOf e := Nat.mod_lt j hsz
                  have hjj : j / P.cellsOf e * P.cellsOf e + j % P.cellsOf e = j := by rw [Nat.mul_comm]; exact Nat.div_add_mod j _
                  have hx : l[j % P.cellsOf e]? = some x := by
                    rw [← hpc, List.getElem?_take, if_pos hmod, List.getElem?_drop, hjj]; exact hj
                  obtain ⟨v, hv, hvr⟩ := hrel.get hx
                  simp at hv
                  have hcv := (World.cells?_some h1).2.2 (j % P.cellsOf e) hmod
                  rw [hv, hadd, hjj] at hcv
                  have hsp := hspot (by
                    have h9 := hc0.2.1
                    intro h0
                    have : len = 0 := by omega
                    rw [this] at hi; exact absurd hi (Nat.not_lt_zero _))
                  refine ⟨v, ?_, hvr⟩
                  have : a.add j = ⟨a.block, a.off + j, none⟩ := by
                    unfold Addr.add
                    split
                    · rename_i h0; subst h0; cases a; simp_all
                    · rfl
                  rw [← this]; exact hcv
                refine ⟨fun hne => ?_, hc⟩
                obtain ⟨x, xs, hxs⟩ := List.exists_cons_of_ne_nil hne
                obtain ⟨v, hv, _⟩ := hc 0 x (by rw [hxs]; rfl)
                unfold World.cell? at hv
                split at hv
                · rename_i hb; exact (Array.getElem?_eq_some_iff.1 hb).1
                · cases hv
              have m2 := More.add m1.st m1.ro ls.flatten (a.block, a.off, 0) hro
              refine ⟨_, _, [.slice σ1.next 0 len (.op 0)], m1.trans m2, one rfl (.slice (b' := a.block) (o' := a.off) (m := 0) (if_pos rfl) hc.2.1 (fun k hk => by cases hk) (fun s hs h0 => by cases hs; exact absurd rfl h0) ?_), .slice (c := ls.flatten) hu ?_ (Nat.le_trans (Nat.mul_le_mul_right _ (by omega)) hwn) (by rw [hfl]; omega) ?_⟩
              · rcases Nat.eq_zero_or_pos cap with h0 | h0
                · exact .inl h0
                · refine .inr ?_
                  have := hspot (by omega)
                  cases a; simp_all
              · rw [Mem.get_bump, Mem.get_put_self]
              · intro i hi
                obtain ⟨l, hl⟩ : ∃ l, ls[i]? = some l := ⟨_, List.getElem?_eq_getElem (by omega)⟩
                obtain ⟨c, y, h1, h2, hyw⟩ := hcell i (by omega)
                have hpc := hpiece i (i * P.cellsOf e, P.cellsOf e) l (by
                    rw [List.getElem?_map, List.getElem?_range' hi]
                    simp) hl
                simp only [Nat.sub_zero] at hpc
                rw [hpc]
                exact (hall i _ l (hitem i c hi h1) hl).2.mono m2.keep
            · cases h
        case struct fs =>
          simp only [Bool.and_eq_true, List.all_eq_true] at hT
          obtain ⟨htile, hTs⟩ := hT
          have h1 : cs.length = P.cellsOf t ∧ ∃ xs, (fs.toList.mapM fun f => DataW.trod enc P w 0 (fun _ => true) true fuel f.type ((cs.drop f.offset).take (P.cellsOf f.type))) = some xs ∧ d = .agg (xs.map (·.1)) := by
            dsimp only at h
            split at h
            · rename_i hl
              rw [Option.map_eq_some_iff] at h
              obtain ⟨xs, hx, hd⟩ := h
              exact ⟨hl, xs, hx, by simp only [Prod.mk.injEq] at hd; exact hd.1.symm⟩
            · cases h
          obtain ⟨hlc, xs, hxs, hdx⟩ := h1
          rw [hdx, DataW.weights, hu] at hwt
          let items : List (TypeId × List Value) := fs.toList.map fun f => (f.type, (cs.drop f.offset).take (P.cellsOf f.type))
          have hit : ∀ x ∈ items, ∀ ρ σ, St ρ σ w → σ.Ro → ∃ ρ' σ' l, More ρ σ w ρ' σ' ∧ LRel ρ' l x.2.toArray ∧ Wt P σ' x.1 l := by
            intro x hx ρ σ st hr
            obtain ⟨f, hf, rfl⟩ := List.mem_map.1 hx
            obtain ⟨i, hi⟩ := List.getElem?_of_mem hf
            have h2 := mapM_some_get hxs i f hi
            have hl := mapM_some_length hxs
            have hil : i < xs.length := by have := (List.getElem?_eq_some_iff.1 hi).1; omega
            rw [List.getElem?_eq_getElem hil] at h2
            exact ih n f.type _ xs[i].1 xs[i].2 h2 (hTs f hf) (weightsEach_get hwt i f.type _ (by rw [List.getElem?_map, hi]; rfl) (by rw [List.getElem?_map, List.getElem?_eq_getElem hil]; rfl)) ρ σ st hr
          obtain ⟨ρ1, σ1, ls, m1, hlen, hall⟩ := imp_items hit ρ σ st hr
          simp only [items, List.length_map] at hlen
          have hbd := (tiles_le htile).2
          have hlsz : ∀ (i : Nat) (p : Nat × Nat) (l : List AV), (fs.toList.map fun f => (f.offset, P.cellsOf f.type))[i]? = some p → ls[i]? = some l → l.length = p.2 := by
            intro i p l hp hl
            have hb := hbd p (List.mem_of_getElem? hp)
            rw [List.getElem?_map, Option.map_eq_some_iff] at hp
            obtain ⟨f, hf, rfl⟩ := hp
            have := (hall i (f.type, (cs.drop f.offset).take (P.cellsOf f.type)) l (by simp only [items, List.getElem?_map, hf, Option.map_some]) hl).1.1
            simp at this hb
            simp; omega
          obtain ⟨hfl, hpiece⟩ := tiles_piece htile (by simpa using hlen) hlsz
          refine ⟨ρ1, σ1, ls.flatten, m1, ?_, .struct hu (by rw [hfl]; omega) fun f hf => ?_⟩
          · have := LRel.flatten (ρ := ρ1) (ls := ls) (cs := items.map (·.2)) (by simp [items, hlen]) fun i l c hl hc => by
              rw [List.getElem?_map, Option.map_eq_some_iff] at hc
              obtain ⟨x, hx, rfl⟩ := hc
              exact (hall i x l hx hl).1
            have e : items.map (·.2) = (fs.toList.map fun f => (f.offset, P.cellsOf f.type)).map fun p => (cs.drop p.1).take p.2 := by
              simp only [items, List.map_map]; rfl
            rw [e, tiles_values cs htile hlc, List.drop_zero] at this
            exact this
          · obtain ⟨i, hi⟩ := List.getElem?_of_mem hf
            obtain ⟨l, hl⟩ : ∃ l, ls[i]? = some l := ⟨_, List.getElem?_eq_getElem (by have := (List.getElem?_eq_some_iff.1 hi).1; omega)⟩
            have hpc := hpiece i (f.offset, P.cellsOf f.type) l (by rw [List.getElem?_map, hi]; rfl) hl
            simp only [Nat.sub_zero] at hpc
            rw [hpc]
            exact (hall i (f.type, (cs.drop f.offset).take (P.cellsOf f.type)) l (by simp only [items, List.getElem?_map, hi, Option.map_some]) hl).2
        case array k e =>
          simp only [Bool.and_eq_true] at hT
          have hkc := Nat.eq_of_beq_eq_true hT.1
          have h1 : cs.length = P.cellsOf t ∧ ∃ xs, ((List.range k).mapM fun i => DataW.trod enc P w 0 (fun _ => true) true fuel e ((cs.drop (i * P.cellsOf e)).take (P.cellsOf e))) = some xs ∧ d = .agg (xs.map (·.1)) := by
            dsimp only at h
            split at h
            · rename_i hl
              rw [Option.map_eq_some_iff] at h
              obtain ⟨xs, hx, hd⟩ := h
              exact ⟨hl, xs, hx, by simp only [Prod.mk.injEq] at hd; exact hd.1.symm⟩
            · cases h
          obtain ⟨hlc, xs, hxs, hdx⟩ := h1
          rw [hdx, DataW.weights, hu] at hwt
          have htile := tiles_range k (P.cellsOf e) 0 k (Nat.le_refl _)
          simp only [Nat.sub_self, Nat.zero_mul, Nat.zero_add, Nat.add_zero] at htile
          rw [hkc] at htile
          have hrange : List.range' 0 k = List.range k := (List.range_eq_range' ..).symm
          rw [hrange] at htile
          let items : List (TypeId × List Value) := (List.range k).map fun i => (e, (cs.drop (i * P.cellsOf e)).take (P.cellsOf e))
          have hit : ∀ x ∈ items, ∀ ρ σ, St ρ σ w → σ.Ro → ∃ ρ' σ' l, More ρ σ w ρ' σ' ∧ LRel ρ' l x.2.toArray ∧ Wt P σ' x.1 l := by
            intro x hx ρ σ st hr
            obtain ⟨i, hi, rfl⟩ := List.mem_map.1 hx
            have hi := List.mem_range.1 hi
            have h2 := mapM_some_get hxs i i (List.getElem?_range hi)
            have hl := mapM_some_length hxs
            rw [List.length_range] at hl
            rw [List.getElem?_eq_getElem (by omega)] at h2
            exact ih n e _ (xs[i]'(by omega)).1 (xs[i]'(by omega)).2 h2 hT.2 (weightsAll_mem hwt _ (List.mem_map_of_mem (List.getElem_mem _))) ρ σ st hr
          obtain ⟨ρ1, σ1, ls, m1, hlen, hall⟩ := imp_items hit ρ σ st hr
          simp only [items, List.length_map, List.length_range] at hlen
          have hbd := (tiles_le htile).2
          have hlsz : ∀ (i : Nat) (p : Nat × Nat) (l : List AV), ((List.range k).map fun i => (i * P.cellsOf e, P.cellsOf e))[i]? = some p → ls[i]? = some l → l.length = p.2 := by
            intro i p l hp hl
            have hb := hbd p (List.mem_of_getElem? hp)
            rw [List.getElem?_map, Option.map_eq_some_iff] at hp
            obtain ⟨f, hf, rfl⟩ := hp
            have := (hall i (e, (cs.drop (f * P.cellsOf e)).take (P.cellsOf e)) l (by simp only [items, List.getElem?_map, hf, Option.map_some]) hl).1.1
            simp at this hb
            simp; omega
          obtain ⟨hfl, hpiece⟩ := tiles_piece htile (by simpa using hlen) hlsz
          refine ⟨ρ1, σ1, ls.flatten, m1, ?_, .array hu (by rw [hfl]; omega) fun i hi => ?_⟩
          · have := LRel.flatten (ρ := ρ1) (ls := ls) (cs := items.map (·.2)) (by simp [items, hlen]) fun i l c hl hc => by
              rw [List.getElem?_map, Option.map_eq_some_iff] at hc
              obtain ⟨x, hx, rfl⟩ := hc
              exact (hall i x l hx hl).1
            have e' : items.map (·.2) = ((List.range k).map fun i => (i * P.cellsOf e, P.cellsOf e)).map fun p => (cs.drop p.1).take p.2 := by
              simp only [items, List.map_map]; rfl
            rw [e', tiles_values cs htile hlc, List.drop_zero] at this
            exact this
          · obtain ⟨l, hl⟩ : ∃ l, ls[i]? = some l := ⟨_, List.getElem?_eq_getElem (by omega)⟩
            have hpc := hpiece i (i * P.cellsOf e, P.cellsOf e) l (by rw [List.getElem?_map, List.getElem?_range hi]; rfl) hl
            simp only [Nat.sub_zero] at hpc
            rw [hpc]
            exact (hall i (e, (cs.drop (i * P.cellsOf e)).take (P.cellsOf e)) l (by simp only [items, List.getElem?_map, List.getElem?_range hi, Option.map_some]) hl).2
def aggT (P : Program) (t : TypeId) : Bool :=
  match P.underlying t with
  | some (.struct _) => true
  | some (.array _ _) => true
  | _ => false
def AV.isAgg : AV → Bool
  | .agg _ => true
  | _ => false
/-- All arguments. -/
inductive Wts (P : Program) (σ : Mem) : List TypeId → List AV → Prop
  | nil : Wts P σ [] []
  | cons {t : TypeId} {ts : List TypeId} {a : AV} {l : List AV} (h : Wt P σ t a.cells) (ha : a.isAgg = aggT P t) (hs : Wts P σ ts l) : Wts P σ (t :: ts) (a :: l)
end
section
variable {P : Program} {σ : Mem}
theorem Wt.int_inv {t : TypeId} {k : IntKind} {c : List AV} (hu : P.underlying t = some (.int k)) (h : Wt P σ t c) : ∃ n, c = [.int k n] ∧ (Lit.int k n).wf = true := by
  cases h <;> rename_i h' <;> simp_all
theorem Wt.bool_inv {t : TypeId} {c : List AV} (hu : P.underlying t = some .bool) (h : Wt P σ t c) : ∃ b, c = [.bool b] := by
  cases h <;> rename_i h' <;> simp_all
theorem Wt.str_inv {t : TypeId} {c : List AV} (hu : P.underlying t = some .string) (h : Wt P σ t c) : ∃ s, c = [.str s] ∧ s.size ≤ reachBytes := by
  cases h <;> rename_i h' <;> simp_all
theorem Wt.slice_inv {t e : TypeId} {c : List AV} (hu : P.underlying t = some (.slice e)) (h : Wt P σ t c) : c = [.nils] ∨ ∃ b n l, c = [.slice b 0 n (.op 0)] ∧ σ.get b = some (.ro l) ∧ n * P.bytesOf e ≤ reachBytes ∧ l.length = n * P.cellsOf e ∧
    ∀ i, i < n → Wt P σ e ((l.drop (i * P.cellsOf e)).take (P.cellsOf e)) := by
  cases h with
  | slice h hg hn hc he =>
    rw [hu] at h
    cases h
    exact .inr ⟨_, _, _, rfl, hg, hn, hc, he⟩
  | nils h => exact .inl rfl
  | bool b h => rw [hu] at h; cases h
  | int h _ => rw [hu] at h; cases h
  | str h _ => rw [hu] at h; cases h
  | struct h _ _ => rw [hu] at h; cases h
  | array h _ _ => rw [hu] at h; cases h
theorem Wt.struct_inv {t : TypeId} {fs : Array Field} {c : List AV} (hu : P.underlying t = some (.struct fs)) (h : Wt P σ t c) : c.length = P.cellsOf t ∧ ∀ f ∈ fs.toList, Wt P σ f.type ((c.drop f.offset).take (P.cellsOf f.type)) := by
  cases h with
  | struct h hc he => rw [hu] at h; cases h; exact ⟨hc, he⟩
  | slice h _ _ _ _ => rw [hu] at h; cases h
  | nils h => rw [hu] at h; cases h
  | bool b h => rw [hu] at h; cases h
  | int h _ => rw [hu] at h; cases h
  | str h _ => rw [hu] at h; cases h
  | array h _ _ => rw [hu] at h; cases h
theorem Wt.array_inv {t e : TypeId} {n : Nat} {c : List AV} (hu : P.underlying t = some (.array n e)) (h : Wt P σ t c) : c.length = P.cellsOf t ∧ ∀ i, i < n → Wt P σ e ((c.drop (i * P.cellsOf e)).take (P.cellsOf e)) := by
  cases h with
  | array h hc he => rw [hu] at h; cases h; exact ⟨hc, he⟩
  | slice h _ _ _ _ => rw [hu] at h; cases h
  | nils h => rw [hu] at h; cases h
  | bool b h => rw [hu] at h; cases h
  | int h _ => rw [hu] at h; cases h
  | str h _ => rw [hu] at h; cases h
  | struct h _ _ => rw [hu] at h; cases h
theorem Wts.nil_inv {l : List AV} (h : Wts P σ [] l) : l = [] := by cases h; rfl
theorem Wts.cons_inv {t : TypeId} {ts : List TypeId} {l : List AV} (h : Wts P σ (t :: ts) l) : ∃ a r, l = a :: r ∧ Wt P σ t a.cells ∧ a.isAgg = aggT P t ∧ Wts P σ ts r := by
  cases h with
  | cons h ha hs => exact ⟨_, _, rfl, h, ha, hs⟩
theorem single {a x : AV} (h : a.cells = [x]) (ha : a.isAgg = false) : a = x := by
  cases a <;> simp_all [AV.cells, AV.isAgg]
theorem Wts.int {t : TypeId} {k : IntKind} {ts : List TypeId} {l : List AV} (hu : P.underlying t = some (.int k)) (h : Wts P σ (t :: ts) l) : ∃ n r, l = .int k n :: r ∧ (Lit.int k n).wf = true ∧ Wts P σ ts r := by
  obtain ⟨a, r, rfl, hw, ha, hs⟩ := h.cons_inv
  obtain ⟨n, hc, hn⟩ := hw.int_inv hu
  have := single hc (by rw [ha]; simp [aggT, hu])
  subst this
  exact ⟨n, r, rfl, hn, hs⟩
theorem Wts.bool {t : TypeId} {ts : List TypeId} {l : List AV} (hu : P.underlying t = some .bool) (h : Wts P σ (t :: ts) l) : ∃ b r, l = .bool b :: r ∧ Wts P σ ts r := by
  obtain ⟨a, r, rfl, hw, ha, hs⟩ := h.cons_inv
  obtain ⟨n, hc⟩ := hw.bool_inv hu
  have := single hc (by rw [ha]; simp [aggT, hu])
  subst this
  exact ⟨n, r, rfl, hs⟩
theorem Wts.str {t : TypeId} {ts : List TypeId} {l : List AV} (hu : P.underlying t = some .string) (h : Wts P σ (t :: ts) l) : ∃ s r, l = .str s :: r ∧ s.size ≤ reachBytes ∧ Wts P σ ts r := by
  obtain ⟨a, r, rfl, hw, ha, hs⟩ := h.cons_inv
  obtain ⟨n, hc, hn⟩ := hw.str_inv hu
  have := single hc (by rw [ha]; simp [aggT, hu])
  subst this
  exact ⟨n, r, rfl, hn, hs⟩
theorem Wts.slice {t e : TypeId} {ts : List TypeId} {l : List AV} (hu : P.underlying t = some (.slice e)) (h : Wts P σ (t :: ts) l) : ∃ a r, l = a :: r ∧ Wts P σ ts r ∧ (a = .nils ∨ ∃ b n l, a = .slice b 0 n (.op 0) ∧ σ.get b = some (.ro l) ∧ n * P.bytesOf e ≤ reachBytes ∧ l.length = n * P.cellsOf e ∧
    ∀ i, i < n → Wt P σ e ((l.drop (i * P.cellsOf e)).take (P.cellsOf e))) := by
  obtain ⟨a, r, rfl, hw, ha, hs⟩ := h.cons_inv
  refine ⟨a, r, rfl, hs, ?_⟩
  rcases hw.slice_inv hu with hc | ⟨b, n, l, hc, h1⟩
  · exact .inl (single hc (by rw [ha]; simp [aggT, hu]))
  · exact .inr ⟨b, n, l, single hc (by rw [ha]; simp [aggT, hu]), h1⟩
theorem Wts.agg {t : TypeId} {ts : List TypeId} {l : List AV} (hu : aggT P t = true) (h : Wts P σ (t :: ts) l) : ∃ c r, l = .agg c :: r ∧ Wt P σ t c ∧ Wts P σ ts r := by
  obtain ⟨a, r, rfl, hw, ha, hs⟩ := h.cons_inv
  rw [hu] at ha
  cases a <;> simp [AV.isAgg] at ha
  exact ⟨_, r, rfl, hw, hs⟩
theorem wf_i64 {n : Int} (h : (Lit.int .i64 n).wf = true) : inI64 n := by
  simp [Lit.wf, IntKind.min, IntKind.max, IntKind.signed, IntKind.bits] at h
  unfold inI64; omega
end
end Go.Vit
