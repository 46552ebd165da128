/- A disk: change, Sync. -/
import Derived.Test.YtgdaiahnceaieaaV9F
set_option linter.unusedVariables false
set_option linter.unusedSimpArgs false
set_option linter.unusedSimpArgs false
set_option maxRecDepth 20000
namespace Go.Vit
open Go.Proofs
theorem Only.then {l : List Nat} {σ σ1 σ2 : Mem} {l1 l2 : List Nat} (h1 : Mem.Only l1 σ σ1) (h2 : Mem.Only l2 σ1 σ2) (a : ∀ x ∈ l1, x ∈ l) (b : ∀ x ∈ l2, x ∈ l) : Mem.Only l σ σ2 :=
  ⟨Nat.le_trans h1.next h2.next, fun c hc hn => by rw [h2.get c (Nat.lt_of_lt_of_le hc h1.next) fun h => hn (b c h), h1.get c hc fun h => hn (a c h)]⟩
def chgD (D : Ds) (f : Int) (E : Fil → Ds) : Ds := if (stepD D).dead = true then stepD D else match getF D.fs f with
  | none => stepD D
  | some x => E x
theorem disk_change {σ : Mem} {b m g : Nat} {D : Ds} {f : Int} {cap : List AV} {C : List Nat} {E : Fil → Ds} (h : Dsk σ b m D) (hst : D.steps < 2 ^ 62) (hC : ∀ c ∈ C, c < σ.next ∧ c ≠ b ∧ c ≠ m)
    (hc : ∀ σ' x, Dsk σ' b m (stepD D) → (∀ c ∈ C, σ'.get c = σ.get c) → getF D.fs f = some x → ACalls PG g (filA x :: cap) σ' fun _ σ'' => Dsk σ'' b m (E x) ∧ Mem.Only [b, m] σ' σ'') :
    ACalls PG n_disk_Disk_change [.ptr b 0, .int .i64 f, .func g cap] σ fun v σ' => v = .int .i64 (deadE (stepD D)) ∧ Dsk σ' b m (chgD D f E) ∧ Mem.Only [b, m] σ σ' := by
  refine ok_disk_Disk_change fun live => ?_
  unfold F_disk_Disk_change
  obtain ⟨hbl, hml⟩ := h.lt live
  have hne := h.ne
  refine callW_of (disk_step (σ := σ.bump 4) (h.keep rfl rfl) hst) ?_
  rintro _ σ1 ⟨rfl, h1, o1⟩
  have o01 : Mem.Only [b, m] σ σ1 := ⟨by have := o1.next; simp only [Mem.next_bump] at this; omega, fun c hc hn => (o1.get c (by simp only [Mem.next_bump]; omega) (by simp at hn ⊢; exact hn.1)).trans rfl⟩
  have n1 := o01.next
  refine To.go ?_
  unfold chgD deadE
  cases hd : (stepD D).dead with
  | true =>
    rw [if_pos rfl, if_pos rfl]
    refine ifT (by decide) ?_
    exact ⟨rfl, h1.keep rfl rfl, o01.bump _⟩
  | false =>
    simp only [Bool.false_eq_true, if_false]
    refine ifF (by decide) ?_
    have g1 := h1.gb
    unfold Ds.cells at g1
    refine To.go ?_
    refine ldrw (σ := σ1.bump 14) g1 (v := .map m) rfl ?_
    obtain ⟨tb, htb⟩ : ∃ tb, σ1.next + 11 = tb := ⟨_, rfl⟩
    rw [htb]
    refine look_two (σ := σ1.bump 14) h1.gm (fun x hx => ?_) (fun hx => ?_)
    · have hx' : getF D.fs f = some x := hx
      rw [hx']
      refine tupW_of rfl ?_
      refine tpB_of rfl ?_
      refine To.go ?_
      unfold filA
      refine stn gS' (by simp) rfl rfl ?_
      obtain ⟨σ2, e2⟩ : ∃ σ2, σ2 = ((σ1.bump 14).put tb (some (.rw [.str ⟨#[]⟩, .int .i64 0]))).put tb (some (.rw (setAt [AV.str ⟨#[]⟩, .int .i64 0] 0 [.str x.1, .int .i64 x.2]))) := ⟨_, rfl⟩
      rw [← e2]
      have s12 : σ1.Same σ2 := by rw [e2]; exact Mem.Same.put (Mem.Same.put ((Mem.Same.refl σ1).bump _) (by omega) _) (by omega) _
      have g2 : σ2.get tb = some (.rw [.str x.1, .int .i64 x.2]) := by rw [e2, gS']; rfl
      clear e2
      have h2 : Dsk σ2 b m (stepD D) := h1.same s12 (by omega) (by omega)
      refine join0 (fun σ' => Dsk σ' b m (E x) ∧ Mem.Only [b, m] σ σ') ?_ ?_
      · refine ifT (p := True) trivial ?_
        refine ldnq (σ := σ2.bump 4) g2 rfl (by simp) ?_
        show callW PG g (filA x :: cap) (σ2.bump 4) _
        refine callW_of (hc (σ2.bump 4) x (h2.keep rfl rfl) (fun c hcm => ?_) hx') ?_
        · obtain ⟨hc1, hc2, hc3⟩ := hC c hcm
          show σ2.get c = _
          rw [s12.get c (by omega), o01.get c hc1 (by simp; exact ⟨hc2, hc3⟩)]
        · rintro _ σ3 ⟨h3, o3⟩
          refine ⟨h3, Only.then (o01) (Only.then (l := [b, m]) (Only.of_same (l := [b, m]) (s12.bump 4)) o3 (fun _ h => h) (fun _ h => h)) (fun _ h => h) (fun _ h => h)⟩
      · rintro σ3 ⟨h3, o3⟩
        unfold F_disk_Disk_change_j1
        exact ⟨rfl, h3.keep rfl rfl, o3.bump _⟩
    · have hx' : getF D.fs f = none := hx
      rw [hx']
      refine tupW_of rfl ?_
      refine tpB_of rfl ?_
      refine To.go ?_
      refine stn gS' (by simp) rfl rfl ?_
      have s12 : σ1.Same (((σ1.bump 14).put tb (some (.rw [.str ⟨#[]⟩, .int .i64 0]))).put tb (some (.rw (setAt [AV.str ⟨#[]⟩, .int .i64 0] 0 [.str ⟨#[]⟩, .int .i64 0])))) := Mem.Same.put (Mem.Same.put ((Mem.Same.refl σ1).bump _) (by omega) _) (by omega) _
      refine join0 (fun σ' => Dsk σ' b m (stepD D) ∧ Mem.Only [b, m] σ σ') ?_ ?_
      · refine ifF (p := False) id ?_
        exact ⟨h1.same (s12.bump 1) (by omega) (by omega), Only.then o01 (Only.of_same (l := [b, m]) (s12.bump 1)) (fun _ h => h) (fun _ h => h)⟩
      · rintro σ3 ⟨h3, o3⟩
        unfold F_disk_Disk_change_j1
        exact ⟨rfl, h3.keep rfl rfl, o3.bump _⟩
def synD (D : Ds) (f : Int) : Ds := chgD D f fun x => putD (stepD D) f (x.1, x.1.size)
theorem disk_Sync_1 {σ : Mem} {b m c1 c2 : Nat} {D : Ds} {f : Int} {x : Fil} (h : Dsk σ b m D) (h1 : σ.get c1 = some (.rw [.ptr b 0])) (h2 : σ.get c2 = some (.rw [.int .i64 f])) (hx : getF D.fs f = some x) :
    ACalls PG n_disk_Disk_Sync_1 [filA x, .ptr c1 0, .ptr c2 0] σ fun _ σ' => Dsk σ' b m (putD D f (x.1, x.1.size)) ∧ Mem.Only [b, m] σ σ' := by
  refine ok_disk_Disk_Sync_1 fun live => ?_
  unfold F_disk_Disk_Sync_1
  obtain ⟨hbl, hml⟩ := h.lt live
  have hne := h.ne
  have ok := h.ok
  have l1 := live.lt h1
  have l2 := live.lt h2
  refine And.intro rfl ?_
  refine To.go ?_
  obtain ⟨tb, htb⟩ : ∃ tb, σ.next = tb := ⟨_, rfl⟩
  rw [htb]
  obtain ⟨σ1, e1⟩ : ∃ σ1, σ1 = (σ.bump 1).put tb (some (.rw (filA x).cells)) := ⟨_, rfl⟩
  rw [← e1]
  have s1 : σ.Same σ1 := by rw [e1]; exact Mem.Same.put ((Mem.Same.refl σ).bump _) (by omega) _
  have g1 : σ1.get tb = some (.rw [.str x.1, .int .i64 x.2]) := by rw [e1, gS']; rfl
  clear e1
  have hD := h.same s1 hbl hml
  have gb := hD.gb
  unfold Ds.cells at gb
  refine ldrw (σ := σ1.bump 12) ((s1.get c1 l1).trans h1) (v := .ptr b 0) rfl ?_
  refine To.go ?_
  refine ldrw (σ := σ1.bump 12) gb (v := .map m) rfl ?_
  refine To.go ?_
  refine ldrw (σ := σ1.bump 12) (K := fun a => castI .i64 a _) ((s1.get c2 l2).trans h2) (v := .int .i64 f) rfl ?_
  refine To.go ?_
  refine To.go ?_
  refine To.go ?_
  refine ldrw (σ := σ1.bump 12) (K := fun a => castS a _) g1 (v := .str x.1) rfl ?_
  refine To.go ?_
  refine To.go ?_
  refine To.go ?_
  refine ldrw (σ := σ1.bump 12) (K := fun a => castS a _) g1 (v := .str x.1) rfl ?_
  refine To.go ?_
  refine mup_fs (σ := σ1.bump 12) (x := (x.1, x.1.size)) hD.gm ok.knd ?_
  have hsum : tot D.fs ≤ 16777216 := ok.sum
  have hok : (putD D f (x.1, x.1.size)).ok := putD_ok ok (Nat.le_refl _) (by
    have : szF (getF D.fs f) = x.1.size := by rw [hx]; rfl
    rw [this]; dsimp only; omega)
  refine ⟨⟨?_, ?_, hne, hok⟩, ?_⟩
  · rw [Mem.get_put_ne _ hne]; exact hD.gb
  · rw [gS']; rfl
  · exact Mem.Only.put ((Only.of_same s1).bump _) (by simp) _
theorem boxW_ptr {b o : Nat} {X : Prop} (h : X) : boxW (.ptr b o) X := h
theorem boxW_map {b : Nat} {X : Prop} (h : X) : boxW (.map b) X := h
theorem boxW_nils {X : Prop} (h : X) : boxW .nils X := h
theorem disk_Sync {σ : Mem} {b m : Nat} {D : Ds} {f : Int} (h : Dsk σ b m D) (hw : wrongD D f = 0) (hst : D.steps < 2 ^ 62) :
    ACalls PG n_disk_Disk_Sync [.ptr b 0, .int .i64 f] σ fun v σ' => v = .int .i64 (deadE (stepD D)) ∧ Dsk σ' b m (synD D f) ∧ Mem.Only [b, m] σ σ' := by
  refine ok_disk_Disk_Sync fun live => ?_
  unfold F_disk_Disk_Sync
  obtain ⟨hbl, hml⟩ := h.lt live
  refine boxW_ptr ?_
  refine To.go ?_
  refine To.go ?_
  obtain ⟨c1, hc1⟩ : ∃ c1, σ.next = c1 := ⟨_, rfl⟩
  obtain ⟨c2, hc2⟩ : ∃ c2, σ.next + 1 = c2 := ⟨_, rfl⟩
  rw [hc2, hc1]
  obtain ⟨σ1, e1⟩ : ∃ σ1, σ1 = ((σ.bump 3).put c1 (some (.rw (AV.ptr b 0).cells))).put c2 (some (.rw [.int .i64 f])) := ⟨_, rfl⟩
  rw [← e1]
  have s1 : σ.Same σ1 := by rw [e1]; exact Mem.Same.put (Mem.Same.put ((Mem.Same.refl σ).bump _) (by omega) _) (by omega) _
  have n1 : σ1.next = σ.next + 3 := by rw [e1]; rfl
  have g2 : σ1.get c2 = some (.rw [.int .i64 f]) := by rw [e1, gS']
  have g1 : σ1.get c1 = some (.rw [.ptr b 0]) := by rw [e1]; exact gN (by omega) gS'
  clear e1
  refine ldrw (σ := σ1.bump 4) g1 (v := .ptr b 0) rfl ?_
  refine To.go ?_
  refine ldrw (σ := σ1.bump 4) (K := fun a => castI .i64 a _) g2 (v := .int .i64 f) rfl ?_
  refine To.go ?_
  have hD := h.same s1 hbl hml
  refine callW_of (disk_wrong (σ := σ1.bump 4) (hD.keep rfl rfl)) ?_
  rintro _ σ2 ⟨rfl, s2⟩
  rw [hw]
  have s12 := s2.ob
  have n12 := s12.next
  refine To.go ?_
  refine ifF (by decide) ?_
  have g12 := (s12.get c1 (by omega)).trans g1
  have g22 := (s12.get c2 (by omega)).trans g2
  refine ldrw (σ := σ2.bump 7) g12 (v := .ptr b 0) rfl ?_
  refine To.go ?_
  refine ldrw (σ := σ2.bump 7) (K := fun a => castI .i64 a _) g22 (v := .int .i64 f) rfl ?_
  refine To.go ?_
  have hD2 := hD.same s12 (by omega) (by omega)
  refine callW_of (disk_change (σ := σ2.bump 7) (C := [c1, c2]) (E := fun x => putD (stepD D) f (x.1, x.1.size)) (hD2.keep rfl rfl) hst ?_ ?_) ?_
  · intro c hc
    simp only [List.mem_cons, List.not_mem_nil, or_false] at hc
    simp only [Mem.next_bump]
    omega
  · intro σ' x hd hcc hx
    exact disk_Sync_1 hd ((hcc c1 (by simp)).trans g12) ((hcc c2 (by simp)).trans g22) hx
  · rintro _ σ3 ⟨rfl, h3, o3⟩
    refine To.go ?_
    exact ⟨rfl, h3, Only.then (Only.of_same (l := [b, m]) ((s1.trans s12).bump 7)) o3 (fun _ h => h) (fun _ h => h)⟩
end Go.Vit
