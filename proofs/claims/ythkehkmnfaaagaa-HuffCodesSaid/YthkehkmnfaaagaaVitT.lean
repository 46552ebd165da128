/- From the model's code to the abstract one: a computable function, and that what it gives is right. -/
import Derived.Test.YthkehkmnfaaagaaVitSa
set_option linter.unusedVariables false
set_option linter.unusedSimpArgs false
namespace Go.Vit

def compGuard (ops : Array Oper) (N : Nat) : Option (Nat × Bool) → Option (Option (Nat × Bool))
  | none => some none
  | some (j, want) => (ops[j]?).bind fun o => o.dst.bind fun d => if d < N then some (some (d, want)) else none
def compOper (P : Program) (N : Nat) (ops : Array Oper) (i : Nat) : Option AOper :=
  (ops[i]?).bind fun o => (compGuard ops N o.guard).bind fun g =>
    match o.dst with
    | none => some ⟨none, g, (compOp P o.op).getD .fail⟩
    | some d => if d < N then some ⟨some d, g, (compOp P o.op).getD .fail⟩ else none
def compOpers (P : Program) (N : Nat) (ops : Array Oper) : List Nat → Option (List RegE)
  | [] => some []
  | i :: l => (compOper P N ops i).bind fun o => (compOpers P N ops l).bind fun r => some (⟨i, o, []⟩ :: r)

def edgeMask (ms : List Nat) : List Edge → Nat
  | [] => 0
  | e :: es => if Region.binds .any e then ((1 <<< e.on) ||| ms.getD e.on 0) ||| edgeMask ms es else edgeMask ms es
def masks (ops : List Oper) : List Nat := ops.foldl (fun ms o => ms ++ [edgeMask ms o.after.toList]) []
def masksOk (ms : List Nat) : Nat → List Oper → Bool
  | _, [] => true
  | i, o :: r => ms.getD i 0 == edgeMask ms o.after.toList && masksOk ms (i + 1) r
def hards (ms : List Nat) (es : List RegE) : List Bool :=
  es.map fun p => p.o.op.eff || (match p.o.d with
    | none => false
    | some x => es.any fun q => q.i != p.i && !(ms.getD q.i 0).testBit p.i && (q.o.ts.contains x || q.o.d == some x))
def planGo (ms : List Nat) (hd : List Bool) (n : Nat) : Nat → Nat → List Nat → List Nat
  | 0, _, acc => acc.reverse
  | f + 1, done, acc =>
    let free (i : Nat) : Bool := !done.testBit i && (ms.getD i 0 &&& done) == ms.getD i 0
    match (List.range n).find? (fun i => free i && !hd.getD i true) with
    | some i => planGo ms hd n f (done ||| (1 <<< i)) (i :: acc)
    | none => match (List.range n).find? free with
      | some i => planGo ms hd n f (done ||| (1 <<< i)) (i :: acc)
      | none => acc.reverse
def pairOk (ms : List Nat) (hd : List Bool) (ex : Nat → Nat → Bool) (p q : RegE) : Bool :=
  let a := (ms.getD q.i 0).testBit p.i
  (!hd.getD p.i false || ex p.i q.i || a) &&
  (match p.o.d with | none => true | some x => !q.o.ts.contains x || a) &&
  (match q.o.d with | none => true | some x => !(p.o.ts.contains x || p.o.d == some x) || (hd.getD q.i false && a))
def pairsOk (ms : List Nat) (hd : List Bool) (ex : Nat → Nat → Bool) : List RegE → Bool
  | [] => true
  | p :: r => r.all (pairOk ms hd ex p) && pairsOk ms hd ex r
def extOk (ops : Array Oper) : List Nat → List RegE → Bool
  | _, [] => true
  | seen, q :: r => (match ops[q.i]? with
      | some o => o.after.toList.all fun e => !Region.binds .any e || seen.contains e.on
      | none => false) && extOk ops (q.i :: seen) r
def nodupOk : List RegE → Bool
  | [] => true
  | p :: r => r.all (fun q => q.i != p.i) && nodupOk r
def flOf (ms : List Nat) (hd : List Bool) (acc : List RegE) (i : Nat) : List (Nat × AOp) :=
  if hd.getD i false then acc.filterMap (fun p => if p.o.op.reads && !(ms.getD i 0).testBit p.i then some (p.i, p.o.op) else none) else []
/-- Which reads may come behind. -/
def addFl (ms : List Nat) (hd : List Bool) : List RegE → List RegE → List RegE
  | _, [] => []
  | acc, q :: r => ⟨q.i, q.o, if hd.getD q.i false then acc.filterMap (fun p => if p.o.op.reads && !(ms.getD q.i 0).testBit p.i then some (p.i, p.o.op) else none) else []⟩ :: addFl ms hd (acc ++ [q]) r

def planOk (ops : Array Oper) (ms : List Nat) (hd : List Bool) (ex : Nat → Nat → Bool) (l : List RegE) : Bool :=
  masksOk ms 0 ops.toList && (ms.length == ops.size) && nodupOk l && decide (l.length ≤ ops.size) && (List.range ops.size).all (fun i => l.any fun p => p.i == i) && l.all (fun p => decide (p.i < ops.size)) && pairsOk ms hd ex l && extOk ops [] l &&
  l.all (fun p => !p.o.op.eff || hd.getD p.i false) && l.all (fun p => hd.getD p.i false || (match p.o.d with | none => true | some x => !p.o.ts.contains x))

def compRegion (P : Program) (N : Nat) (ops : Array Oper) (draw : Bool) : Option ACode :=
  (compOpers P N ops (List.range ops.size)).bind fun es =>
    if !draw then some (.region ops.size es) else
      let ms := masks ops.toList
      let hd := hards ms es
      let order := planGo ms hd ops.size ops.size 0 []
      (compOpers P N ops order).bind fun l =>
        if planOk ops ms hd (fun _ _ => false) l then some (.region ops.size (addFl ms hd [] l)) else
          match order.reverse with
          | j :: i :: r => (compOpers P N ops r.reverse).bind fun x => (compOper P N ops i).bind fun oi => (compOper P N ops j).bind fun oj =>
            let ex (a b : Nat) : Bool := (a == i && b == j) || (a == j && b == i)
            if (planOk ops ms hd ex (x ++ [⟨i, oi, []⟩, ⟨j, oj, []⟩]) && planOk ops ms hd ex (x ++ [⟨j, oj, []⟩, ⟨i, oi, []⟩])) && (hd.getD i false && hd.getD j false) then
              some (.regionX ops.size (addFl ms hd [] x) ⟨i, oi, flOf ms hd x i⟩ ⟨j, oj, flOf ms hd (x ++ [⟨i, oi, []⟩]) j⟩ (flOf ms hd x j) (flOf ms hd (x ++ [⟨j, oj, []⟩]) i))
            else none
          | _ => none

section
variable {P : Program} {N : Nat}
theorem compOper_spec {ops : Array Oper} {i : Nat} {o' : AOper} (h : compOper P N ops i = some o') : CompOper P N ops i o' := by
  simp only [compOper, Option.bind_eq_some_iff] at h
  obtain ⟨o, ho, g, hg, h⟩ := h
  have hop : compOp P o.op = some ((compOp P o.op).getD .fail) ∨ (compOp P o.op).getD .fail = .fail := by
    cases compOp P o.op with
    | none => exact .inr rfl
    | some op => exact .inl rfl
  have hg' : (o.guard = none ∧ g = none) ∨ ∃ j want oj dj, o.guard = some (j, want) ∧ ops[j]? = some oj ∧ oj.dst = some dj ∧ g = some (dj, want) ∧ dj < N := by
    cases hgd : o.guard with
    | none => rw [hgd] at hg; simp [compGuard] at hg; exact .inl ⟨rfl, hg.symm⟩
    | some jw =>
      obtain ⟨j, want⟩ := jw
      rw [hgd] at hg
      simp only [compGuard, Option.bind_eq_some_iff] at hg
      obtain ⟨oj, hoj, dj, hdj, hg⟩ := hg
      split at hg
      · rename_i hlt; cases hg; exact .inr ⟨j, want, oj, dj, rfl, hoj, hdj, rfl, hlt⟩
      · cases hg
  split at h
  · rename_i hd; cases h; exact ⟨o, ho, hop, hd.symm, hg', fun d e => by rw [hd] at e; cases e⟩
  · rename_i d hd
    split at h
    · rename_i hlt; cases h; exact ⟨o, ho, hop, hd.symm, hg', fun d' e => by rw [hd] at e; cases e; exact hlt⟩
    · cases h
theorem compOpers_spec {ops : Array Oper} : ∀ {is : List Nat} {l : List RegE}, compOpers P N ops is = some l → (∀ p ∈ l, CompOper P N ops p.i p.o) ∧ l.map (·.i) = is
  | [], l, h => by simp [compOpers] at h; subst h; exact ⟨fun p hp => by simp at hp, rfl⟩
  | i :: is, l, h => by
    simp only [compOpers, Option.bind_eq_some_iff] at h
    obtain ⟨o, ho, r, hr, e⟩ := h
    cases e
    have ih := compOpers_spec hr
    refine ⟨fun p hp => ?_, by simp [ih.2]⟩
    rcases List.mem_cons.1 hp with rfl | hp
    · exact compOper_spec ho
    · exact ih.1 p hp

theorem edgeMask_bit {ms : List Nat} {x : Nat} : ∀ {es : List Edge}, (edgeMask ms es).testBit x = true → ∃ e ∈ es, Region.binds .any e = true ∧ (x = e.on ∨ (ms.getD e.on 0).testBit x = true)
  | [], h => by simp [edgeMask] at h
  | e :: es, h => by
    simp only [edgeMask] at h
    split at h
    · rename_i hb
      rw [Nat.testBit_or, Nat.testBit_or, Bool.or_eq_true, Bool.or_eq_true] at h
      rcases h with (h | h) | h
      · refine ⟨e, by simp, hb, .inl ?_⟩
        rw [Nat.one_shiftLeft, Nat.testBit_two_pow] at h
        exact (of_decide_eq_true h).symm
      · exact ⟨e, by simp, hb, .inr h⟩
      · obtain ⟨e', he', r⟩ := edgeMask_bit h
        exact ⟨e', by simp [he'], r⟩
    · obtain ⟨e', he', r⟩ := edgeMask_bit h
      exact ⟨e', by simp [he'], r⟩
theorem masksOk_spec {ms : List Nat} : ∀ {k : Nat} {os : List Oper}, masksOk ms k os = true → ∀ (i : Nat) (o : Oper), os[i]? = some o → ms.getD (k + i) 0 = edgeMask ms o.after.toList
  | k, [], _, i, o, h => by simp at h
  | k, o' :: os, hm, i, o, h => by
    simp only [masksOk, Bool.and_eq_true, beq_iff_eq] at hm
    cases i with
    | zero => simp at h; subst h; exact hm.1
    | succ i =>
      have := masksOk_spec hm.2 i o (by simpa using h)
      rw [show k + (i + 1) = k + 1 + i by omega]; exact this

/-- The ancestors, as the plan's proof wants them. -/
def ancOf (ms : List Nat) (n : Nat) (i : Nat) : List Nat := (List.range n).filter fun x => (ms.getD i 0).testBit x

theorem mem_ancOf {ms : List Nat} {n i x : Nat} : x ∈ ancOf ms n i ↔ x < n ∧ (ms.getD i 0).testBit x = true := by
  simp [ancOf, List.mem_filter]

theorem pairsOk_spec {ms : List Nat} {hd : List Bool} {ex : Nat → Nat → Bool} : ∀ {l : List RegE}, pairsOk ms hd ex l = true → l.Pairwise (fun p q => pairOk ms hd ex p q = true)
  | [], _ => .nil
  | p :: r, h => by
    simp only [pairsOk, Bool.and_eq_true, List.all_eq_true] at h
    exact .cons h.1 (pairsOk_spec h.2)
theorem nodupOk_spec : ∀ {l : List RegE}, nodupOk l = true → (l.map (·.i)).Nodup
  | [], _ => .nil
  | p :: r, h => by
    simp only [nodupOk, Bool.and_eq_true, List.all_eq_true, bne_iff_ne] at h
    rw [List.map_cons, List.nodup_cons]
    refine ⟨fun hm => ?_, nodupOk_spec h.2⟩
    obtain ⟨q, hq, e⟩ := List.mem_map.1 hm
    exact h.1 q hq e
theorem extOk_spec {ops : Array Oper} : ∀ {l : List RegE} {seen : List Nat}, extOk ops seen l = true → ∀ l1 q l2, l = l1 ++ q :: l2 → ∀ o, ops[q.i]? = some o → ∀ e ∈ o.after, Region.binds .any e = true → (e.on ∈ seen ∨ ∃ p ∈ l1, p.i = e.on)
  | [], _, _, l1, q, l2, hl, _, _, _, _, _ => by simp at hl
  | p :: r, seen, h, l1, q, l2, hl, o, ho, e, he, hb => by
    simp only [extOk, Bool.and_eq_true] at h
    cases l1 with
    | nil =>
      simp only [List.nil_append, List.cons.injEq] at hl
      obtain ⟨rfl, rfl⟩ := hl
      rw [ho] at h
      have := List.all_eq_true.1 h.1 e (by simpa using he)
      rw [hb] at this
      exact .inl (by simpa using this)
    | cons p' l1 =>
      simp only [List.cons_append, List.cons.injEq] at hl
      obtain ⟨rfl, rfl⟩ := hl
      rcases extOk_spec h.2 l1 q l2 rfl o ho e he hb with hs | ⟨p1, hp1, e1⟩
      · rcases List.mem_cons.1 hs with hs | hs
        · exact .inr ⟨p, by simp, hs.symm⟩
        · exact .inl hs
      · exact .inr ⟨p1, by simp [hp1], e1⟩

/-- The plan with its reads is the plan but for them. -/
theorem addFl_shape {ms : List Nat} {hd : List Bool} : ∀ (l acc : List RegE), (addFl ms hd acc l).map (fun p => (p.i, p.o)) = l.map (fun p => (p.i, p.o))
  | [], _ => rfl
  | q :: r, acc => by simp [addFl, addFl_shape r]
theorem addFl_mem {ms : List Nat} {hd : List Bool} {p : RegE} : ∀ {l acc : List RegE}, p ∈ addFl ms hd acc l → ∃ q ∈ l, q.i = p.i ∧ q.o = p.o
  | [], _, h => by simp [addFl] at h
  | q :: r, acc, h => by
    simp only [addFl] at h
    rcases List.mem_cons.1 h with rfl | h
    · exact ⟨q, by simp, rfl, rfl⟩
    · obtain ⟨x, hx, e⟩ := addFl_mem h; exact ⟨x, by simp [hx], e⟩
theorem pairOk_spec {ms : List Nat} {hd : List Bool} {ex : Nat → Nat → Bool} {n : Nat} {p q p' q' : RegE} (h : pairOk ms hd ex p q = true) (hp : p.i = p'.i ∧ p.o = p'.o) (hq : q.i = q'.i ∧ q.o = q'.o) (hlt : p.i < n)
    (hm : hd.getD q.i false = true → p.o.op.reads = true → (ms.getD q.i 0).testBit p.i = true ∨ (p.i, p.o.op) ∈ q'.fl) : Pair (ancOf ms n) (fun i => hd.getD i false) (fun i j => ex i j = true) p' q' := by
  obtain ⟨hp1, hp2⟩ := hp
  obtain ⟨hq1, hq2⟩ := hq
  simp only [pairOk, Bool.and_eq_true, Bool.or_eq_true, Bool.not_eq_true'] at h
  obtain ⟨⟨h1, h2⟩, h3⟩ := h
  have h2' : ∀ x, p.o.d = some x → (q.o.ts.contains x = false ∨ (ms.getD q.i 0).testBit p.i = true) := by
    intro x hx
    rw [hx] at h2
    have h2 : (!q.o.ts.contains x || (ms.getD q.i 0).testBit p.i) = true := h2
    cases hb : q.o.ts.contains x with
    | false => exact .inl rfl
    | true => rw [hb] at h2; exact .inr h2
  have hanc : (ms.getD q.i 0).testBit p.i = true → p'.i ∈ ancOf ms n q'.i := fun e => mem_ancOf.2 ⟨by rw [← hp1]; exact hlt, by rw [← hp1, ← hq1]; exact e⟩
  refine ⟨fun e => ?_, fun x hx hm' => ?_, fun x hx hm' => ?_, fun e1 e2 => ?_⟩
  · rcases h1 with (h1 | h1) | h1
    · rw [← hp1] at e; rw [h1] at e; cases e
    · exact .inl (by rw [← hp1, ← hq1]; exact h1)
    · exact .inr (hanc h1)
  · rcases h2' x (by rw [hp2]; exact hx) with h2 | h2
    · have : x ∈ q.o.ts := by rw [hq2]; exact hm'
      rw [← List.contains_iff_mem] at this; rw [h2] at this; cases this
    · exact hanc h2
  · rw [hq2, hx] at h3
    have h3 : (!(p.o.ts.contains x || p.o.d == some x) || (hd.getD q.i false && (ms.getD q.i 0).testBit p.i)) = true := h3
    simp only [Bool.or_eq_true, Bool.not_eq_true', Bool.or_eq_false_iff, Bool.and_eq_true] at h3
    rcases h3 with h3 | h3
    · exfalso
      rcases hm' with hm' | hm'
      · have : x ∈ p.o.ts := by rw [hp2]; exact hm'
        rw [← List.contains_iff_mem] at this; rw [h3.1] at this; cases this
      · rw [hp2, hm'] at h3; simp at h3
    · exact ⟨by rw [← hq1]; exact h3.1, hanc h3.2⟩
  · rcases hm (by rw [hq1]; exact e1) (by rw [hp2]; exact e2) with h | h
    · exact .inl (hanc h)
    · exact .inr (by rw [← hp1, ← hp2]; exact h)

theorem addFl_pairs {ms : List Nat} {hd : List Bool} {ex : Nat → Nat → Bool} {n : Nat} : ∀ {l acc : List RegE}, l.Pairwise (fun p q => pairOk ms hd ex p q = true) → (∀ p ∈ l, p.i < n) → (addFl ms hd acc l).Pairwise (Pair (ancOf ms n) (fun i => hd.getD i false) fun i j => ex i j = true)
  | [], _, _, _ => .nil
  | q :: r, acc, h, hlt => by
    rw [List.pairwise_cons] at h
    simp only [addFl]
    refine .cons ?_ (addFl_pairs h.2 (fun p hp => hlt p (by simp [hp])))
    -- behind q
    have key : ∀ (r acc : List RegE), q ∈ acc → (∀ x ∈ r, pairOk ms hd ex q x = true) → ∀ x' ∈ addFl ms hd acc r, ∃ x ∈ r, x.i = x'.i ∧ x.o = x'.o ∧ pairOk ms hd ex q x = true ∧ (hd.getD x.i false = true → q.o.op.reads = true → (ms.getD x.i 0).testBit q.i = true ∨ (q.i, q.o.op) ∈ x'.fl) := by
      intro r
      induction r with
      | nil => intro acc _ _ x' hx'; simp [addFl] at hx'
      | cons y r ih =>
        intro acc hq hall x' hx'
        simp only [addFl] at hx'
        rcases List.mem_cons.1 hx' with rfl | hx'
        · refine ⟨y, by simp, rfl, rfl, hall y (by simp), fun e1 e2 => ?_⟩
          simp only [e1, if_true]
          cases hb : (ms.getD y.i 0).testBit q.i with
          | true => exact .inl rfl
          | false =>
            refine .inr (List.mem_filterMap.2 ⟨q, hq, ?_⟩)
            rw [e2, hb]; rfl
        · obtain ⟨x, hx, e⟩ := ih (acc ++ [y]) (by simp [hq]) (fun x hx => hall x (by simp [hx])) x' hx'
          exact ⟨x, by simp [hx], e⟩
    intro x' hx'
    obtain ⟨x, hx, e1, e2, e3, e4⟩ := key r (acc ++ [q]) (by simp) h.1 x' hx'
    exact pairOk_spec e3 ⟨rfl, rfl⟩ ⟨e1, e2⟩ (hlt q (by simp)) e4

theorem planOk_spec {ops : Array Oper} {ms : List Nat} {hd : List Bool} {ex : Nat → Nat → Bool} {l : List RegE} (hc : ∀ p ∈ l, CompOper P N ops p.i p.o) (h : planOk ops ms hd ex l = true) :
    PlanOk P N ops (addFl ms hd [] l) (ancOf ms ops.size) (fun i => hd.getD i false) (fun i j => ex i j = true) := by
  simp only [planOk, Bool.and_eq_true, List.all_eq_true, decide_eq_true_eq, beq_iff_eq] at h
  obtain ⟨⟨⟨⟨⟨⟨⟨⟨⟨h1, h2⟩, h3⟩, h4⟩, h5⟩, h6⟩, h7⟩, h8⟩, h9⟩, h10⟩ := h
  have hmap := addFl_shape (ms := ms) (hd := hd) l []
  have hmapi : (addFl ms hd [] l).map (·.i) = l.map (·.i) := by
    have := congrArg (List.map Prod.fst) hmap
    rw [List.map_map, List.map_map] at this
    exact this
  have hlen : (addFl ms hd [] l).length = l.length := by
    have := congrArg List.length hmap
    simpa using this
  refine ⟨fun p hp => ?_, by rw [hmapi]; exact nodupOk_spec h3, by rw [hlen]; exact h4, fun i hi => ?_, fun p hp => ?_, fun i o ho x hx => ?_, addFl_pairs (pairsOk_spec h7) h6, fun l1 q l2 hl o ho e he hb => ?_, fun p hp he => ?_, fun p hp hh x hx => ?_⟩
  · obtain ⟨q, hq, e1, e2⟩ := addFl_mem hp
    rw [← e1, ← e2]; exact hc q hq
  · have := h5 i (List.mem_range.2 hi)
    obtain ⟨q, hq, e⟩ := List.any_eq_true.1 this
    have hqi : i ∈ (addFl ms hd [] l).map (·.i) := by rw [hmapi]; exact List.mem_map.2 ⟨q, hq, by simpa using e⟩
    obtain ⟨p, hp, e'⟩ := List.mem_map.1 hqi
    exact ⟨p, hp, e'⟩
  · obtain ⟨q, hq, e1, e2⟩ := addFl_mem hp
    rw [← e1]; exact h6 q hq
  · obtain ⟨hxn, hbit⟩ := mem_ancOf.1 hx
    have hms := masksOk_spec h1 i o (by rw [Array.getElem?_toList]; exact ho)
    rw [Nat.zero_add] at hms
    rw [hms] at hbit
    obtain ⟨e, he, hb, r⟩ := edgeMask_bit hbit
    refine ⟨e, by simpa using he, hb, ?_⟩
    rcases r with r | r
    · exact .inl r
    · exact .inr (mem_ancOf.2 ⟨hxn, r⟩)
  · -- the place of q in the bare plan
    have hsplit : ∃ m1 x m2, l = m1 ++ x :: m2 ∧ m1.map (·.i) = l1.map (·.i) ∧ x.i = q.i := by
      have e1 : l.map (·.i) = l1.map (·.i) ++ q.i :: l2.map (·.i) := by rw [← hmapi, hl]; simp
      obtain ⟨m1, m2', e2, e3, e4⟩ := List.map_eq_append_iff.1 e1
      obtain ⟨x, m2, e5, e6, e7⟩ := List.map_eq_cons_iff.1 e4
      exact ⟨m1, x, m2, by rw [e2, e5], e3, e6⟩
    obtain ⟨m1, x, m2, e1, e2, e3⟩ := hsplit
    rcases extOk_spec h8 m1 x m2 e1 o (by rw [e3]; exact ho) e he hb with hs | ⟨p1, hp1, e4⟩
    · simp at hs
    · have : e.on ∈ l1.map (·.i) := by rw [← e2, ← e4]; exact List.mem_map_of_mem hp1
      obtain ⟨p, hp, e'⟩ := List.mem_map.1 this
      exact ⟨p, hp, e'⟩
  · obtain ⟨q, hq, e1, e2⟩ := addFl_mem hp
    have := h9 q hq
    rw [e2, he, e1] at this
    simpa using this
  · obtain ⟨q, hq, e1, e2⟩ := addFl_mem hp
    have := h10 q hq
    rw [e1, e2, hh, hx] at this
    simp at this
    exact this
end

theorem addFl_append {ms : List Nat} {hd : List Bool} : ∀ (x y acc : List RegE), addFl ms hd acc (x ++ y) = addFl ms hd acc x ++ addFl ms hd (acc ++ x) y
  | [], y, acc => by simp [addFl]
  | q :: r, y, acc => by
    rw [List.cons_append, addFl, addFl, addFl_append r y, List.cons_append, List.append_assoc]; rfl
theorem drawn2_ok {P : Program} {Y : YEnv} {ro : Option Nat} {N : Nat} (hm : P.follows .mixedOrders = true) {id : Nat} {ops : Array Oper} {ms : List Nat} {hd : List Bool} {x : List RegE} {i j : Nat} {oi oj : AOper}
    (cx : ∀ p ∈ x, CompOper P N ops p.i p.o) (ci : CompOper P N ops i oi) (cj : CompOper P N ops j oj)
    (hA : planOk ops ms hd (fun a b => (a == i && b == j) || (a == j && b == i)) (x ++ [⟨i, oi, []⟩, ⟨j, oj, []⟩]) = true) (hB : planOk ops ms hd (fun a b => (a == i && b == j) || (a == j && b == i)) (x ++ [⟨j, oj, []⟩, ⟨i, oi, []⟩]) = true)
    (hi : hd.getD i false = true) (hj : hd.getD j false = true) :
    CodeOk ro P Y N (.region id ops true) (.regionX ops.size (addFl ms hd [] x) ⟨i, oi, flOf ms hd x i⟩ ⟨j, oj, flOf ms hd (x ++ [⟨i, oi, []⟩]) j⟩ (flOf ms hd x j) (flOf ms hd (x ++ [⟨j, oj, []⟩]) i)) := by
  have pA := planOk_spec (P := P) (N := N) (fun p hp => by
    rcases List.mem_append.1 hp with hp | hp
    · exact cx p hp
    · simp at hp; rcases hp with rfl | rfl <;> assumption) hA
  have pB := planOk_spec (P := P) (N := N) (fun p hp => by
    rcases List.mem_append.1 hp with hp | hp
    · exact cx p hp
    · simp at hp; rcases hp with rfl | rfl <;> assumption) hB
  rw [addFl_append, List.nil_append] at pA pB
  simp only [addFl] at pA pB
  refine .drawn2 hm ?_ pA pB hi hj
  funext a b
  simp
theorem compRegion_ok {P : Program} {Y : YEnv} {ro : Option Nat} {N : Nat} (hm : P.follows .mixedOrders = true) {id : Nat} {ops : Array Oper} {draw : Bool} {ac : ACode} (h : compRegion P N ops draw = some ac) : CodeOk ro P Y N (.region id ops draw) ac := by
  simp only [compRegion, Option.bind_eq_some_iff] at h
  obtain ⟨es, hes, h⟩ := h
  obtain ⟨h1, h2⟩ := compOpers_spec hes
  split at h
  · rename_i hd
    have : draw = false := by simpa using hd
    subst this
    cases h
    exact .region h1 h2
  · rename_i hd
    have : draw = true := by simpa using hd
    subst this
    simp only [Option.bind_eq_some_iff] at h
    obtain ⟨l, hl, h⟩ := h
    split at h
    · rename_i hp
      cases h
      exact .drawn hm (by simp) (planOk_spec (compOpers_spec hl).1 hp)
    · split at h
      · rename_i j i r hr
        simp only [Option.bind_eq_some_iff] at h
        obtain ⟨x, hx, oi, hoi, oj, hoj, h⟩ := h
        split at h
        · rename_i hp
          cases h
          simp only [Bool.and_eq_true] at hp
          obtain ⟨⟨hA, hB⟩, hi, hj⟩ := hp
          exact drawn2_ok hm (compOpers_spec hx).1 (compOper_spec hoi) (compOper_spec hoj) hA hB hi hj
        · cases h
      · cases h
def compCode (top : Bool) (P : Program) (N : Nat) : Code → Option ACode
  | .skip => some .skip
  | .label _ => some .skip
  | .region _ ops draw => compRegion P N ops draw
  | .seq a b => (compCode top P N a).bind fun x => (compCode top P N b).bind fun y => some (.seq x y)
  | .cond c a b => (opd c).bind fun c => (compCode top P N a).bind fun x => (compCode top P N b).bind fun y => some (.cond c x y)
  | .block id a => (compCode top P N a).map (.block id)
  | .loop a => (compCode top P N a).map .loop
  | .scope a => (compCode top P N a).map .scope
  | .exit id => some (.exit id)
  | .ret => some .ret
  | .rangeFunc g ps a b => match top with
    | true => (opd g).bind fun g => (compCode false P N a).bind fun x => (compCode false P N b).bind fun y => if ps.toList.all fun i => decide (i < N) then some (.range g ps.toList x y) else some .stuck
    | false => some .stuck
  | _ => some .stuck
def compFunc (P : Program) (f : Nat) : Option AFunc :=
  (P.funcs[f]?).bind fun fn => fn.body.bind fun c => if fn.name == "runtime.NumGoroutine" then none else
    (compCode true P fn.ntmps c).bind fun b => (compRes P fn.results.toList).bind fun r => some ⟨fn.ntmps, b, r⟩

theorem compCode_ok {P : Program} {N : Nat} (hm : P.follows .mixedOrders = true) : ∀ {c : Code} {top : Bool} {ac : ACode}, compCode top P N c = some ac → ∀ {ro : Option Nat} {Y : YEnv}, (top = true → ro = none) → CodeOk ro P Y N c ac := by
  intro c
  induction c with
  | skip => intro top ac h ro Y htop; simp [compCode] at h; subst h; exact .skip
  | label l => intro top ac h ro Y htop; simp [compCode] at h; subst h; exact .label l
  | region id ops draw => intro top ac h ro Y htop; exact compRegion_ok hm h
  | seq a b iha ihb =>
    intro top ac h ro Y htop
    simp only [compCode, Option.bind_eq_some_iff, Option.some.injEq] at h
    obtain ⟨x, hx, y, hy, rfl⟩ := h
    exact .seq (iha hx htop) (ihb hy htop)
  | cond c a b iha ihb =>
    intro top ac h ro Y htop
    simp only [compCode, Option.bind_eq_some_iff, Option.some.injEq] at h
    obtain ⟨c', hc, x, hx, y, hy, rfl⟩ := h
    exact .cond hc (iha hx htop) (ihb hy htop)
  | block id a ih =>
    intro top ac h ro Y htop
    simp only [compCode, Option.map_eq_some_iff] at h
    obtain ⟨x, hx, rfl⟩ := h
    exact .block (ih hx htop)
  | loop a ih =>
    intro top ac h ro Y htop
    simp only [compCode, Option.map_eq_some_iff] at h
    obtain ⟨x, hx, rfl⟩ := h
    exact .loop (ih hx htop)
  | scope a ih =>
    intro top ac h ro Y htop
    simp only [compCode, Option.map_eq_some_iff] at h
    obtain ⟨x, hx, rfl⟩ := h
    exact .scope (ih hx htop)
  | exit id => intro top ac h ro Y htop; simp [compCode] at h; subst h; exact .exit id
  | ret => intro top ac h ro Y htop; simp [compCode] at h; subst h; exact .ret
  | rangeFunc g ps a b iha ihb =>
    intro top ac h ro Y htop
    cases top with
    | false => simp [compCode] at h; subst h; exact .stuck
    | true =>
      obtain rfl := htop rfl
      simp only [compCode, Option.bind_eq_some_iff] at h
      obtain ⟨g', hg, x, hx, y, hy, h⟩ := h
      split at h
      · rename_i hall
        cases h
        exact .range hg (fun ro => iha hx (by simp)) (fun ro => ihb hy (by simp)) (fun i hi => by simpa using List.all_eq_true.1 hall i hi)
      · cases h; exact .stuck
  | _ => intro top ac h ro Y htop; simp [compCode] at h; subst h; exact .stuck

/-- A FUNCTION, compiled: what its body says of a call. -/
theorem ACallsY.of_func {P : Program} {Y : YEnv} {f : Nat} {af : AFunc} {args : List AV} {σ : Mem} {Q : AV → Mem → Prop} (hm : P.follows .mixedOrders = true) (hf : compFunc P f = some af) (hlen : args.length ≤ af.N)
    (h : AW P Y af.body (retPost af.res Q) (argT args 0 .leaf) σ) : ACallsY P Y f args σ Q := by
  simp only [compFunc, Option.bind_eq_some_iff] at hf
  obtain ⟨fn, hfn, c, hc, hf⟩ := hf
  split at hf
  · cases hf
  · rename_i hname
    simp only [Option.bind_eq_some_iff, Option.some.injEq] at hf
    obtain ⟨b, hb, r, hr, rfl⟩ := hf
    exact .of_body hfn hc (by simpa using hname) rfl hr (compCode_ok hm hb fun _ => rfl) hlen h
theorem ACalls.of_func {P : Program} {f : Nat} {af : AFunc} {args : List AV} {σ : Mem} {Q : AV → Mem → Prop} (hm : P.follows .mixedOrders = true) (hf : compFunc P f = some af) (hlen : args.length ≤ af.N)
    (h : AW P noY af.body (retPost af.res Q) (argT args 0 .leaf) σ) : ACalls P f args σ Q := (ACallsY.of_func hm hf hlen h).plain

/-- The same, with the temporaries that are needed no more forgotten, as a list says: an entry for each loop, block and fork. -/
def keepB (k : Option (List Nat)) (a : ACode) : ACode :=
  match k with
  | none => a
  | some ks => .seq (.forget ks) a
def keepA (k : Option (List Nat)) (a : ACode) : ACode :=
  match k with
  | none => a
  | some ks => .seq a (.forget ks)
def compCodeA (P : Program) (N : Nat) : Code → List (Option (List Nat)) → Option (ACode × List (Option (List Nat)))
  | .skip, l => some (.skip, l)
  | .label _, l => some (.skip, l)
  | .region _ ops draw, l => match l with
    | [] => none
    | k :: l => (compRegion P N ops draw).map fun a => (keepA k a, l)
  | .seq a b, l => (compCodeA P N a l).bind fun x => (compCodeA P N b x.2).bind fun y => some (.seq x.1 y.1, y.2)
  | .cond c a b, l => match l with
    | [] => none
    | k :: l => (opd c).bind fun c => (compCodeA P N a l).bind fun x => (compCodeA P N b x.2).bind fun y => some (keepA k (.cond c x.1 y.1), y.2)
  | .block id a, l => match l with
    | [] => none
    | k :: l => (compCodeA P N a l).map fun x => (keepA k (.block id x.1), x.2)
  | .loop a, l => match l with
    | [] => none
    | k :: l => (compCodeA P N a l).map fun x => (keepB k (.loop (keepA k x.1)), x.2)
  | .scope a, l => (compCodeA P N a l).map fun x => (.scope x.1, x.2)
  | .exit id, l => some (.exit id, l)
  | .ret, l => some (.ret, l)
  | _, l => some (.stuck, l)
def compFuncA (P : Program) (f : Nat) (ks : List (Option (List Nat))) : Option AFunc :=
  (P.funcs[f]?).bind fun fn => fn.body.bind fun c => if fn.name == "runtime.NumGoroutine" then none else
    (compCodeA P fn.ntmps c ks).bind fun b => (compRes P fn.results.toList).bind fun r => some ⟨fn.ntmps, b.1, r⟩

theorem CodeOk.keepA {P : Program} {Y : YEnv} {ro : Option Nat} {N : Nat} {x : Code} {ax : ACode} (hx : CodeOk ro P Y N x ax) (k : Option (List Nat)) : CodeOk ro P Y N x (keepA k ax) := by
  cases k with
  | none => exact hx
  | some ks => exact hx.keepAfter ks
theorem CodeOk.keepB {P : Program} {Y : YEnv} {ro : Option Nat} {N : Nat} {x : Code} {ax : ACode} (hx : CodeOk ro P Y N x ax) (k : Option (List Nat)) : CodeOk ro P Y N x (keepB k ax) := by
  cases k with
  | none => exact hx
  | some ks => exact hx.keepBefore ks
theorem compCodeA_ok {P : Program} {Y : YEnv} {ro : Option Nat} {N : Nat} (hm : P.follows .mixedOrders = true) : ∀ {c : Code} {l : List (Option (List Nat))} {x : ACode × List (Option (List Nat))}, compCodeA P N c l = some x → CodeOk ro P Y N c x.1 := by
  intro c
  induction c with
  | skip => intro l x h; simp [compCodeA] at h; subst h; exact .skip
  | label b => intro l x h; simp [compCodeA] at h; subst h; exact .label b
  | region id ops draw =>
    intro l x h
    cases l with
    | nil => simp [compCodeA] at h
    | cons k l =>
      simp only [compCodeA, Option.map_eq_some_iff] at h
      obtain ⟨a, ha, rfl⟩ := h
      exact (compCode_ok hm (c := .region id ops draw) (top := false) ha (by simp)).keepA k
  | seq a b iha ihb =>
    intro l x h
    simp only [compCodeA, Option.bind_eq_some_iff, Option.some.injEq] at h
    obtain ⟨x, hx, y, hy, rfl⟩ := h
    exact .seq (iha hx) (ihb hy)
  | cond c a b iha ihb =>
    intro l x h
    cases l with
    | nil => simp [compCodeA] at h
    | cons k l =>
      simp only [compCodeA, Option.bind_eq_some_iff, Option.some.injEq] at h
      obtain ⟨c', hc, x, hx, y, hy, rfl⟩ := h
      exact (CodeOk.cond hc (iha hx) (ihb hy)).keepA k
  | block id a ih =>
    intro l x h
    cases l with
    | nil => simp [compCodeA] at h
    | cons k l =>
      simp only [compCodeA, Option.map_eq_some_iff] at h
      obtain ⟨x, hx, rfl⟩ := h
      exact (CodeOk.block (ih hx)).keepA k
  | loop a ih =>
    intro l x h
    cases l with
    | nil => simp [compCodeA] at h
    | cons k l =>
      simp only [compCodeA, Option.map_eq_some_iff] at h
      obtain ⟨x, hx, rfl⟩ := h
      exact (CodeOk.loop ((ih hx).keepA k)).keepB k
  | scope a ih =>
    intro l x h
    simp only [compCodeA, Option.map_eq_some_iff] at h
    obtain ⟨x, hx, rfl⟩ := h
    exact .scope (ih hx)
  | exit id => intro l x h; simp [compCodeA] at h; subst h; exact .exit id
  | ret => intro l x h; simp [compCodeA] at h; subst h; exact .ret
  | _ => intro l x h; simp [compCodeA] at h; subst h; exact .stuck
theorem ACalls.of_funcA {P : Program} {f : Nat} {af : AFunc} {args : List AV} {σ : Mem} {Q : AV → Mem → Prop} {ks : List (Option (List Nat))} (hm : P.follows .mixedOrders = true) (hf : compFuncA P f ks = some af) (hlen : args.length ≤ af.N)
    (h : AW P noY af.body (retPost af.res Q) (argT args 0 .leaf) σ) : ACalls P f args σ Q := by
  simp only [compFuncA, Option.bind_eq_some_iff] at hf
  obtain ⟨fn, hfn, c, hc, hf⟩ := hf
  split at hf
  · cases hf
  · rename_i hname
    simp only [Option.bind_eq_some_iff, Option.some.injEq] at hf
    obtain ⟨b, hb, r, hr, rfl⟩ := hf
    exact .of_body hfn hc (by simpa using hname) rfl hr (compCodeA_ok hm hb) hlen h
end Go.Vit
