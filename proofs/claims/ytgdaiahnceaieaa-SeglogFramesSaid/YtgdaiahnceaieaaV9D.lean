/- A disk: a file is put, a step, Append, Read. -/
import Derived.Test.YtgdaiahnceaieaaV9B
import Derived.Test.YtgdaiahnceaieaaVm3
set_option linter.unusedVariables false
set_option linter.unusedSimpArgs false
set_option linter.unusedSimpArgs false
set_option maxRecDepth 20000
namespace Go.Vit
open Go.Proofs
def getF (l : List Ent) (f : Int) : Option Fil := (l.find? fun e => decide (e.1 = f)).map (·.2.1)
def hasF (l : List Ent) (f : Int) : Bool := l.any fun e => decide (e.1 = f)
def chF (f : Int) (x : Fil) (e : Ent) : Ent := if e.1 = f then (f, x, e.2.2) else e
def putL (l : List Ent) (f : Int) (x : Fil) (c : Nat) : List Ent := if hasF l f = true then l.map (chF f x) else l ++ [(f, x, c)]
def putC (l : List Ent) (f : Int) (c : Nat) : Nat := if hasF l f = true then c else c + 1
theorem look_fs (f : Int) : ∀ l : List Ent, look (fsE l) f = (getF l f).map filA
  | [] => rfl
  | e :: l => by
    have ih := look_fs f l
    unfold getF at ih ⊢
    rw [List.find?_cons]
    show (if e.1 = f then some (filA e.2.1) else look (fsE l) f) = _
    by_cases h : e.1 = f
    · rw [if_pos h, decide_eq_true h]; rfl
    · rw [if_neg h, decide_eq_false h]; exact ih
theorem chF_none {f : Int} {x : Fil} {l : List Ent} (h : ∀ e ∈ l, e.1 ≠ f) : l.map (chF f x) = l := by
  have : ∀ e ∈ l, chF f x e = e := fun e he => if_neg (h e he)
  rw [List.map_congr_left this, List.map_id']
theorem idx_fs {f : Int} {x : Fil} : ∀ {l : List Ent}, (l.map (·.1)).Nodup → match idx (fsE l) f with
    | none => hasF l f = false
    | some i => hasF l f = true ∧ (l.map entA).modify i (fun e => (.int .i64 f, filA x, e.2.2)) = (l.map (chF f x)).map entA
  | [], _ => rfl
  | e :: l, h => by
    rw [List.map_cons, List.nodup_cons] at h
    have ih := idx_fs (f := f) (x := x) h.2
    show match (if e.1 = f then some 0 else (idx (fsE l) f).map (· + 1)) with
      | none => _
      | some i => _
    by_cases he : e.1 = f
    · rw [if_pos he]
      refine ⟨by unfold hasF; rw [List.any_cons, decide_eq_true he]; rfl, ?_⟩
      have hno : ∀ y ∈ l, y.1 ≠ f := fun y hy e2 => h.1 (by rw [he, ← e2]; exact List.mem_map_of_mem (f := fun e : Ent => e.1) hy)
      rw [List.map_cons, List.map_cons, chF_none hno]
      show (AV.int .i64 f, filA x, e.2.2) :: l.map entA = entA (chF f x e) :: l.map entA
      unfold chF
      rw [if_pos he]; rfl
    · rw [if_neg he]
      have h1 : hasF (e :: l) f = hasF l f := by unfold hasF; rw [List.any_cons, decide_eq_false he]; rfl
      rw [h1]
      cases hi : idx (fsE l) f with
      | none => rw [hi] at ih; exact ih
      | some i =>
        rw [hi] at ih
        refine ⟨ih.1, ?_⟩
        show entA e :: (l.map entA).modify i _ = entA (chF f x e) :: (l.map (chF f x)).map entA
        rw [ih.2]
        unfold chF
        rw [if_neg he]
theorem mup_fs {σ : Mem} {m c : Nat} {l : List Ent} {f : Int} {x : Fil} {K : Mem → Prop} (h : σ.get m = some (.map (encE (fsE l)) c)) (hn : (l.map (·.1)).Nodup)
    (hk : K (σ.put m (some (.map (encE (fsE (putL l f x c))) (putC l f c))))) : mupW σ (.map m) (.int .i64 f) (filA x) K := by
  refine opt h ?_
  refine opt (findK_enc f (fsE l)) ?_
  have hi := idx_fs (f := f) (x := x) hn
  unfold putL putC at hk
  cases e : idx (fsE l) f with
  | none =>
    rw [e] at hi
    have hi : hasF l f = false := hi
    rw [hi] at hk
    simp only [Bool.false_eq_true, if_false] at hk
    have e2 : encE (fsE (l ++ [(f, x, c)])) = encE (fsE l) ++ [(.int .i64 f, filA x, c)] := by rw [encE_fs, encE_fs, List.map_append]; rfl
    rw [e2] at hk
    exact hk
  | some i =>
    rw [e] at hi
    obtain ⟨hi1, hi2⟩ := hi
    rw [hi1] at hk
    simp only [if_true] at hk
    rw [encE_fs, ← hi2, ← encE_fs] at hk
    exact hk
theorem look_val {σ : Mem} {m c : Nat} {l : List Ent} {f : Int} {K : AV → Prop} (h : σ.get m = some (.map (encE (fsE l)) c)) (hk : K (filA ((getF l f).getD (⟨#[]⟩, 0)))) : lookW σ (.agg [.str ⟨#[]⟩, .int .i64 0]) false (.map m) (.int .i64 f) K := by
  refine look_step (a := f) h ?_
  rw [look_fs]
  cases hg : getF l f with
  | none => rw [hg] at hk; exact hk
  | some x => rw [hg] at hk; exact hk
theorem look_two {σ : Mem} {m c : Nat} {l : List Ent} {f : Int} {K : AV → Prop} (h : σ.get m = some (.map (encE (fsE l)) c)) (h1 : ∀ x, getF l f = some x → K (.tup [filA x, .bool true])) (h2 : getF l f = none → K (.tup [.agg [.str ⟨#[]⟩, .int .i64 0], .bool false])) : lookW σ (.agg [.str ⟨#[]⟩, .int .i64 0]) true (.map m) (.int .i64 f) K := by
  refine look_ok (a := f) h (fun v hv => ?_) (fun hv => ?_)
  · rw [look_fs, Option.map_eq_some_iff] at hv
    obtain ⟨x, hx, rfl⟩ := hv
    exact h1 x hx
  · rw [look_fs, Option.map_eq_none_iff] at hv
    exact h2 hv
def szF (o : Option Fil) : Nat := (o.getD (⟨#[]⟩, 0)).1.size
theorem tot_put {f : Int} {x : Fil} {c : Nat} : ∀ {l : List Ent}, (l.map (·.1)).Nodup → tot (putL l f x c) + szF (getF l f) = tot l + x.1.size
  | [], _ => by simp [putL, hasF, tot, szF, getF]; rfl
  | e :: l, h => by
    rw [List.map_cons, List.nodup_cons] at h
    have ih := tot_put (f := f) (x := x) (c := c) h.2
    unfold putL getF at ih ⊢
    have ht : ∀ (e : Ent) (l : List Ent), tot (e :: l) = e.2.1.1.size + tot l := fun e l => by unfold tot; simp
    rw [List.find?_cons]
    by_cases he : e.1 = f
    · have hno : ∀ y ∈ l, y.1 ≠ f := fun y hy e2 => h.1 (by rw [he, ← e2]; exact List.mem_map_of_mem (f := fun e : Ent => e.1) hy)
      have h1 : hasF (e :: l) f = true := by unfold hasF; rw [List.any_cons, decide_eq_true he]; rfl
      rw [h1, if_pos rfl, decide_eq_true he, List.map_cons, chF_none hno, ht, ht]
      unfold chF
      rw [if_pos he]
      show x.1.size + tot l + e.2.1.1.size = _
      omega
    · have h1 : hasF (e :: l) f = hasF l f := by unfold hasF; rw [List.any_cons, decide_eq_false he]; rfl
      rw [h1, decide_eq_false he]
      cases hh : hasF l f with
      | true =>
        rw [hh, if_pos rfl] at ih
        rw [if_pos rfl, List.map_cons, ht, ht]
        unfold chF
        rw [if_neg he]
        dsimp only
        unfold chF at ih
        omega
      | false =>
        rw [hh] at ih
        simp only [Bool.false_eq_true, if_false, List.cons_append] at ih ⊢
        rw [ht, ht]
        omega
theorem chF_keys (f : Int) (x : Fil) (l : List Ent) : (l.map (chF f x)).map (·.1) = l.map (·.1) := by
  rw [List.map_map]
  refine List.map_congr_left fun e _ => ?_
  show (chF f x e).1 = e.1
  unfold chF; split
  · rename_i h; exact h.symm
  · rfl
theorem chF_borns (f : Int) (x : Fil) (l : List Ent) : (l.map (chF f x)).map (·.2.2) = l.map (·.2.2) := by
  rw [List.map_map]
  refine List.map_congr_left fun e _ => ?_
  show (chF f x e).2.2 = e.2.2
  unfold chF; split <;> rfl
def putD (D : Ds) (f : Int) (x : Fil) : Ds := { D with fs := putL D.fs f x D.clock, clock := putC D.fs f D.clock }
theorem has_false {l : List Ent} {f : Int} (h : hasF l f = false) : ∀ e ∈ l, e.1 ≠ f := by
  intro e he e2
  have : hasF l f = true := List.any_eq_true.2 ⟨e, he, decide_eq_true e2⟩
  rw [h] at this; cases this
theorem putD_ok {D : Ds} {f : Int} {x : Fil} (ok : D.ok) (hx : x.2 ≤ x.1.size) (ht : tot D.fs + x.1.size ≤ 16777216 + szF (getF D.fs f)) : (putD D f x).ok := by
  have htp := tot_put (f := f) (x := x) (c := D.clock) ok.knd
  refine ⟨?_, ?_, ?_, ok.arm, ok.stp, ok.lim, ?_, ?_⟩
  · intro e he
    unfold putD putL putC at *
    dsimp only at he ⊢
    cases hh : hasF D.fs f with
    | true =>
      rw [hh, if_pos rfl] at he
      rw [if_pos rfl]
      obtain ⟨y, hy, rfl⟩ := List.mem_map.1 he
      have := ok.born y hy
      unfold chF; split <;> exact this
    | false =>
      rw [hh] at he
      simp only [Bool.false_eq_true, if_false] at he ⊢
      rcases List.mem_append.1 he with he | he
      · have := ok.born e he; omega
      · rw [List.mem_singleton.1 he]; exact Nat.lt_succ_self _
  · unfold putD putL
    dsimp only
    cases hh : hasF D.fs f with
    | true => rw [if_pos rfl, chF_borns]; exact ok.bnd
    | false =>
      simp only [Bool.false_eq_true, if_false]
      rw [List.map_append, List.nodup_append]
      refine ⟨ok.bnd, by simp, fun a ha c hc => ?_⟩
      simp only [List.map_cons, List.map_nil, List.mem_singleton] at hc
      subst hc
      obtain ⟨y, hy, rfl⟩ := List.mem_map.1 ha
      exact Nat.ne_of_lt (ok.born y hy)
  · unfold putD putL
    dsimp only
    cases hh : hasF D.fs f with
    | true => rw [if_pos rfl, chF_keys]; exact ok.knd
    | false =>
      simp only [Bool.false_eq_true, if_false]
      rw [List.map_append, List.nodup_append]
      refine ⟨ok.knd, by simp, fun a ha c hc => ?_⟩
      simp only [List.map_cons, List.map_nil, List.mem_singleton] at hc
      subst hc
      obtain ⟨y, hy, rfl⟩ := List.mem_map.1 ha
      exact has_false hh y hy
  · intro e he
    unfold putD putL at he
    dsimp only at he
    cases hh : hasF D.fs f with
    | true =>
      rw [hh, if_pos rfl] at he
      obtain ⟨y, hy, rfl⟩ := List.mem_map.1 he
      unfold chF; split
      · exact hx
      · exact ok.syn y hy
    | false =>
      rw [hh] at he
      simp only [Bool.false_eq_true, if_false] at he
      rcases List.mem_append.1 he with he | he
      · exact ok.syn e he
      · rw [List.mem_singleton.1 he]; exact hx
  · show tot (putL D.fs f x D.clock) ≤ 16777216
    omega
end Go.Vit
