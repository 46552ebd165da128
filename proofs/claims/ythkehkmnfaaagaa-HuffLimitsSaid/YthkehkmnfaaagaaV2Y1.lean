/- Rows -/
import Derived.Test.YthkehkmnfaaagaaV2O
import Derived.Test.YthkehkmnfaaagaaVm3
set_option linter.unusedVariables false
set_option linter.unusedSimpArgs false
set_option linter.unusedSimpArgs false
set_option maxRecDepth 20000
namespace Go.Vit
open Go.Proofs
section

structure Th where
  n : Int
  c : Bool
  v : AV
  one : v.one = true
  t : Pm
def thC (x : Th) : List AV := [.int .i64 x.n, .bool x.c, x.v]
theorem thC_len (x : Th) : (thC x).length = 3 := rfl
theorem thC_one (x : Th) : (thC x).all AV.one = true := by
  unfold thC
  simp only [List.all_cons, List.all_nil, x.one, Bool.and_true]; rfl
def th3 (X : List Th) : List AV := X.flatMap thC
theorem th3_len (X : List Th) : (th3 X).length = X.length * 3 := flat_length thC_len X
theorem th3_one (X : List Th) : (th3 X).all AV.one = true := by
  unfold th3
  rw [List.all_flatMap]
  exact List.all_eq_true.2 fun x _ => thC_one x
theorem th3_append (X Y : List Th) : th3 X ++ th3 Y = th3 (X ++ Y) := by unfold th3; rw [List.flatMap_append]
theorem th3_take (X : List Th) (n : Nat) : (th3 X).take (n * 3) = th3 (X.take n) := flat_take thC_len X n
theorem th3_drop (X : List Th) (n : Nat) : (th3 X).drop (n * 3) = th3 (X.drop n) := flat_drop thC_len X n
theorem OwnS.rdT {σ σ' : Mem} {v : AV} {X : List Th} (h : OwnS 3 σ v (th3 X) X.length) (hb : ∀ b ∈ blkOf v, σ'.get b = σ.get b) {i : Nat} (hi : i < X.length) {j : Int} (hj : j = (i : Nat)) {K : AV → Prop} (hk : K (.agg (thC X[i]))) : idxW 3 v j fun p => ldnW 3 σ' p K := by
  subst hj
  obtain ⟨b, rfl, hg, _⟩ := h.sl (by omega)
  refine And.intro (show (0 : Int) ≤ (i : Nat) ∧ ((i : Nat) : Int) < (X.length : Nat) by omega) ?_
  rw [Int.toNat_natCast, Nat.zero_add]
  refine ldnq ((hb b (by simp [blkOf])).trans hg) rfl (by rw [th3_len]; omega) ?_
  unfold th3; rw [flat_piece thC_len hi]; exact hk
theorem OwnS.fldT {σ σ' : Mem} {v : AV} {X : List Th} (h : OwnS 3 σ v (th3 X) X.length) (hb : ∀ b ∈ blkOf v, σ'.get b = σ.get b) {i k : Nat} (hi : i < X.length) (hk3 : k < 3) {j : Int} (hj : j = (i : Nat)) {x : AV} (hx : (thC X[i])[k]? = some x) {K : AV → Prop} (hk : K x) : idxW 3 v j fun p => fldW k p fun q => ldW σ' q K := by
  subst hj
  obtain ⟨b, rfl, hg, _⟩ := h.sl (by omega)
  refine And.intro (show (0 : Int) ≤ (i : Nat) ∧ ((i : Nat) : Int) < (X.length : Nat) by omega) ?_
  rw [Int.toNat_natCast, Nat.zero_add]
  show ldW σ' (.ptr b (i * 3 + k)) K
  refine ldq ((hb b (by simp [blkOf])).trans hg) ?_ hk
  show (th3 X)[i * 3 + k]? = _
  unfold th3
  rw [flat_get thC_len hi hk3]
  exact hx
theorem OwnS.fldN {σ σ' : Mem} {v : AV} {X : List Th} (h : OwnS 3 σ v (th3 X) X.length) (hb : ∀ b ∈ blkOf v, σ'.get b = σ.get b) {i : Nat} (hi : i < X.length) {j : Int} (hj : j = (i : Nat)) {K : Int → Prop} (hk : K X[i].n) : idxW 3 v j fun p => fldW 0 p fun q => ldI σ' q K :=
  h.fldT (k := 0) hb hi (by decide) hj (x := .int .i64 X[i].n) rfl (K := fun a => castI .i64 a K) hk
def mrgT : List Th → List Th → List Th
  | [], P => P
  | C, [] => C
  | a :: C, b :: P => if a.n ≤ b.n then a :: mrgT C (b :: P) else b :: mrgT (a :: C) P
termination_by C P => C.length + P.length
theorem mrgT_nil (P : List Th) : mrgT [] P = P := by unfold mrgT; rfl
theorem mrgT_nil' (C : List Th) : mrgT C [] = C := by cases C <;> (unfold mrgT; rfl)
theorem mrgT_cons (a b : Th) (C P : List Th) : mrgT (a :: C) (b :: P) = if a.n ≤ b.n then a :: mrgT C (b :: P) else b :: mrgT (a :: C) P := by
  rw [mrgT]
theorem mrgT_map : ∀ (N : Nat) (C P : List Th), C.length + P.length ≤ N → (∀ x ∈ C, x.n = x.t.wt) → (∀ x ∈ P, x.n = x.t.wt) → (mrgT C P).map (fun x => x.t) = mrg (C.map fun x => x.t) (P.map fun x => x.t) ∧ (∀ x, x ∈ mrgT C P ↔ x ∈ C ∨ x ∈ P) ∧ (mrgT C P).length = C.length + P.length
  | _, [], P, _, _, _ => by rw [mrgT_nil, List.map_nil, mrg_nil]; exact ⟨rfl, by simp, by simp⟩
  | _, a :: C, [], _, _, _ => by rw [mrgT_nil', List.map_nil, mrg_nil']; exact ⟨rfl, by simp, by simp⟩
  | 0, a :: C, b :: P, h, _, _ => by simp at h
  | N + 1, a :: C, b :: P, h, h1, h2 => by
    simp only [List.length_cons] at h
    have ha := h1 a (by simp)
    have hb := h2 b (by simp)
    rw [mrgT_cons, List.map_cons, List.map_cons, mrg_cons, ha, hb]
    split
    · obtain ⟨e1, e2, e3⟩ := mrgT_map N C (b :: P) (by simp only [List.length_cons]; omega) (fun x hx => h1 x (by simp [hx])) h2
      refine ⟨by rw [List.map_cons, e1, List.map_cons], fun x => ?_, by rw [List.length_cons, e3]; simp only [List.length_cons]; omega⟩
      rw [List.mem_cons, e2, List.mem_cons (l := C), or_assoc]
    · obtain ⟨e1, e2, e3⟩ := mrgT_map N (a :: C) P (by simp only [List.length_cons]; omega) h1 (fun x hx => h2 x (by simp [hx]))
      refine ⟨by rw [List.map_cons, e1, List.map_cons], fun x => ?_, by rw [List.length_cons, e3]; simp only [List.length_cons]; omega⟩
      rw [List.mem_cons, e2, List.mem_cons (l := P)]
      constructor
      · rintro (h | h | h)
        · exact .inr (.inl h)
        · exact .inl h
        · exact .inr (.inr h)
      · rintro (h | h | h)
        · exact .inr (.inl h)
        · exact .inl h
        · exact .inr (.inr h)
theorem ref02_row {a b : AV} {X Y : List Th} {σ : Mem} (ha : OwnS 3 σ a (th3 X) X.length) (hb : OwnS 3 σ b (th3 Y) Y.length) (hX : X.length ≤ 2 ^ 30) (hY : Y.length ≤ 2 ^ 30) :
    ACalls PG n_ref02_row [a, b] σ fun v σ' => Own 3 σ σ' v (th3 (mrgT X Y)) (mrgT X Y).length ∧ σ.Same σ' := by
  refine ok_ref02_row fun live => ?_
  unfold F_ref02_row
  have hla := ha.lt live
  have hlb := hb.lt live
  have fa : ∀ {σ' : Mem}, σ.Same σ' → ∀ x ∈ blkOf a, σ'.get x = σ.get x := fun s x hx => s.get x (hla x hx)
  have fb : ∀ {σ' : Mem}, σ.Same σ' → ∀ x ∈ blkOf b, σ'.get x = σ.get x := fun s x hx => s.get x (hlb x hx)
  refine loop3 (fun (p : Nat × Nat) (u : AV) (x y : Int) σ' => x = (p.1 : Nat) ∧ y = (p.2 : Nat) ∧ p.1 ≤ X.length ∧ p.2 ≤ Y.length ∧ σ.Same σ' ∧ ∃ Z, Own 3 σ σ' u (th3 Z) Z.length ∧ Z.length = p.1 + p.2 ∧ Z ++ mrgT (X.drop p.1) (Y.drop p.2) = mrgT X Y) (fun p => X.length - p.1 + (Y.length - p.2)) (0, 0) ⟨rfl, rfl, by dsimp only; omega, by dsimp only; omega, (Mem.Same.refl σ).bump _, [], Own.nil 3 _ _, rfl, rfl⟩ ?_
  rintro ⟨i, k⟩ u _ _ σ1 ⟨rfl, rfl, hi, hk, s1, Z, own, hZ, hm⟩
  unfold F_ref02_row_l1
  dsimp only at hi hk hZ hm ⊢
  obtain ⟨Rj, hRj⟩ : ∃ Rj : AV → Int → Int → Mem → Prop, Rj = fun u' (x y : Int) σ' => Again (∃ j : Nat × Nat, (x = ((j.1 : Nat) : Int) ∧ y = ((j.2 : Nat) : Int) ∧ j.1 ≤ X.length ∧ j.2 ≤ Y.length ∧ σ.Same σ' ∧ ∃ Z, Own 3 σ σ' u' (th3 Z) Z.length ∧ Z.length = j.1 + j.2 ∧ Z ++ mrgT (X.drop j.1) (Y.drop j.2) = mrgT X Y) ∧ X.length - j.1 + (Y.length - j.2) < X.length - i + (Y.length - k)) := ⟨_, rfl⟩
  have push : ∀ (z : Th) (K : AV → Mem → Prop), (∀ u' σ', Own 3 σ σ' u' (th3 (Z ++ [z])) (Z ++ [z]).length → σ.Same σ' → K u' σ') → cellOkW (.agg (thC z)) 3 (newW (σ1.bump 41) (σ1.next + 38) (.rw (setAt [.int .i64 0, .bool false, .nils] 0 (AV.agg (thC z)).cells)) fun σ14 => apW 3 40 (σ1.next + 39) σ14 u (.slice (σ1.next + 38) 0 1 (.ex 1)) K) := by
    intro z K hK
    refine cellOkW_agg rfl (thC_one z) ?_
    refine To.go ?_
    refine Own.push (m := 1) (c := th3 [z]) own s1 rfl (by omega) (by omega) (by omega) rfl (th3_one _) (th3_one _) (by omega) ?_ (by simp only [Mem.next_put, Mem.next_bump]; omega)
    intro u' σ6 own6 s6 _ _ _
    rw [th3_append] at own6
    refine hK u' σ6 ?_ s6
    rw [List.length_append]
    exact own6
  have coin : ∀ (h : i < X.length), (k < Y.length → ∀ h' : k < Y.length, X[i].n ≤ Y[k].n) → idxW 3 a (i : Nat) fun v => ldnW 3 (σ1.bump 41) v fun v => cellOkW v 3 (newW (σ1.bump 41) (σ1.next + 38) (.rw (setAt [.int .i64 0, .bool false, .nils] 0 v.cells)) fun σ14 => apW 3 40 (σ1.next + 39) σ14 u (.slice (σ1.next + 38) 0 1 (.ex 1)) fun v15 σ16 => iW ((i : Nat) + 1) fun v17 => Rj v15 v17 (k : Nat) (σ16.bump 3)) := by
    intro h hle
    refine ha.rdT (i := i) (fa (s1.bump _)) h rfl ?_
    refine push X[i] _ ?_
    intro u' σ' own' s'
    refine iW_of (by omega) ?_
    rw [hRj]
    refine again ⟨(i + 1, k), ⟨rfl, rfl, by dsimp only; omega, hk, s'.bump _, Z ++ [X[i]], own'.same ((Mem.Same.refl σ').bump _), by simp only [List.length_append, List.length_cons, List.length_nil]; omega, ?_⟩, by dsimp only; omega⟩
    dsimp only
    rw [← hm, List.append_assoc, List.singleton_append]
    congr 1
    rw [List.drop_eq_getElem_cons h]
    by_cases hkY : k < Y.length
    · rw [List.drop_eq_getElem_cons hkY, mrgT_cons, if_pos (hle hkY hkY)]
    · rw [List.drop_of_length_le (by omega : Y.length ≤ k), mrgT_nil', mrgT_nil']
  have pair : ∀ (h : k < Y.length), (i < X.length → ∀ h' : i < X.length, ¬ X[i].n ≤ Y[k].n) → idxW 3 b (k : Nat) fun v => ldnW 3 (σ1.bump 41) v fun v => cellOkW v 3 (newW (σ1.bump 41) (σ1.next + 38) (.rw (setAt [.int .i64 0, .bool false, .nils] 0 v.cells)) fun σ14 => apW 3 40 (σ1.next + 39) σ14 u (.slice (σ1.next + 38) 0 1 (.ex 1)) fun v15 σ16 => iW ((k : Nat) + 1) fun v17 => Rj v15 (i : Nat) v17 (σ16.bump 3)) := by
    intro h hle
    refine hb.rdT (i := k) (fb (s1.bump _)) h rfl ?_
    refine push Y[k] _ ?_
    intro u' σ' own' s'
    refine iW_of (by omega) ?_
    rw [hRj]
    refine again ⟨(i, k + 1), ⟨rfl, rfl, hi, by dsimp only; omega, s'.bump _, Z ++ [Y[k]], own'.same ((Mem.Same.refl σ').bump _), by simp only [List.length_append, List.length_cons, List.length_nil]; omega, ?_⟩, by dsimp only; omega⟩
    dsimp only
    rw [← hm, List.append_assoc, List.singleton_append]
    congr 1
    rw [List.drop_eq_getElem_cons h]
    by_cases hiX : i < X.length
    · rw [List.drop_eq_getElem_cons hiX, mrgT_cons, if_neg (hle hiX hiX)]
    · rw [List.drop_of_length_le (by omega : X.length ≤ i), mrgT_nil, mrgT_nil]
  rw [hRj] at coin pair
  refine (ha.keep (fa s1)).rdO.len ?_
  refine ifD (fun h1 => ?_) (fun h1 => ?_)
  · refine (hb.keep (fb s1)).rdO.len ?_
    refine ifD (fun h2 => ?_) (fun h2 => ?_)
    · refine joinI ?_
      exact coin (by omega) (fun h => by omega)
    · refine (ha.keep (fa s1)).rdO.len ?_
      refine ifT h1 ?_
      refine ha.fldN (i := i) (fa (s1.bump _)) (by omega) rfl ?_
      refine hb.fldN (i := k) (fb (s1.bump _)) (by omega) rfl ?_
      refine joinI ?_
      refine ifD (fun h3 => ?_) (fun h3 => ?_)
      · exact coin (by omega) (fun _ _ => h3)
      · exact pair (by omega) (fun _ _ => h3)
  · refine (hb.keep (fb s1)).rdO.len ?_
    refine ifD (fun h2 => ?_) (fun h2 => ?_)
    · refine (hb.keep (fb s1)).rdO.len ?_
      refine ifF (by omega) ?_
      refine (ha.keep (fa s1)).rdO.len ?_
      refine ifF h1 ?_
      refine joinI ?_
      exact pair (by omega) (fun h => by omega)
    · obtain rfl : i = X.length := by omega
      obtain rfl : k = Y.length := by omega
      rw [List.drop_length, List.drop_length, mrgT_nil, List.append_nil] at hm
      rw [← hm]
      exact ⟨own.same ((Mem.Same.refl σ1).bump _), s1.bump _⟩
end
end Go.Vit
