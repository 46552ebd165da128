/- A disk: how great it is; a step; what is read. -/
import Derived.Test.YtgdaiahnceaieaaV9A
import Derived.Test.YtgdaiahnceaieaaVm3
set_option linter.unusedVariables false
set_option linter.unusedSimpArgs false
set_option linter.unusedSimpArgs false
set_option maxRecDepth 20000
namespace Go.Vit
open Go.Proofs
abbrev Ent := Int × Fil × Nat
def entA (e : Ent) : AV × AV × Nat := (.int .i64 e.1, filA e.2.1, e.2.2)
theorem encE_fs (l : List Ent) : encE (fsE l) = l.map entA := by
  unfold encE fsE entA
  rw [List.map_map]; rfl
theorem fs_born (l : List Ent) : ((l.map entA).map (·.2.2)) = l.map (·.2.2) := by
  rw [List.map_map]; rfl
def tot (l : List Ent) : Nat := (l.map fun e => e.2.1.1.size).sum
theorem tot_perm {l l' : List Ent} (h : l.Perm l') : tot l = tot l' := (h.map _).sum_nat
theorem tot_snoc (l : List Ent) (e : Ent) : tot (l ++ [e]) = tot l + e.2.1.1.size := by
  unfold tot
  rw [List.map_append, List.sum_append]; simp
theorem tot_sub {T fs : List Ent} (hT : ∀ x ∈ T, x ∈ fs) (hTn : (T.map (·.2.2)).Nodup) : tot T ≤ tot fs := by
  induction T generalizing fs with
  | nil => exact Nat.zero_le _
  | cons a T ih =>
    rw [List.map_cons, List.nodup_cons] at hTn
    obtain ⟨l1, l2, rfl⟩ := List.append_of_mem (hT a (by simp))
    have h := ih (fs := l1 ++ l2) (fun x hx => by
      have h1 := hT x (by simp [hx])
      have hne : x ≠ a := fun e => hTn.1 (by rw [← e]; exact List.mem_map_of_mem (f := fun e : Ent => e.2.2) hx)
      simp only [List.mem_append, List.mem_cons] at h1 ⊢
      rcases h1 with h1 | h1 | h1
      · exact .inl h1
      · exact absurd h1 hne
      · exact .inr h1) hTn.2
    have e1 : tot (l1 ++ a :: l2) = tot (l1 ++ l2) + a.2.1.1.size := by
      unfold tot
      simp only [List.map_append, List.map_cons, List.sum_append, List.sum_cons]; omega
    have e2 : tot (a :: T) = a.2.1.1.size + tot T := by unfold tot; simp
    omega
theorem len_sub {T fs : List Ent} (hT : ∀ x ∈ T, x ∈ fs) (hTn : (T.map (·.2.2)).Nodup) : T.length ≤ fs.length := by
  induction T generalizing fs with
  | nil => exact Nat.zero_le _
  | cons a T ih =>
    rw [List.map_cons, List.nodup_cons] at hTn
    obtain ⟨l1, l2, rfl⟩ := List.append_of_mem (hT a (by simp))
    have h := ih (fs := l1 ++ l2) (fun x hx => by
      have h1 := hT x (by simp [hx])
      have hne : x ≠ a := fun e => hTn.1 (by rw [← e]; exact List.mem_map_of_mem (f := fun e : Ent => e.2.2) hx)
      simp only [List.mem_append, List.mem_cons] at h1 ⊢
      rcases h1 with h1 | h1 | h1
      · exact .inl h1
      · exact absurd h1 hne
      · exact .inr h1) hTn.2
    rw [List.length_append] at h ⊢
    rw [List.length_cons, List.length_cons]; omega
theorem disk_Size {σ : Mem} {b m : Nat} {D : Ds} (h : Dsk σ b m D) : ACalls PG n_disk_Disk_Size [.ptr b 0] σ fun v σ' => v = .int .i64 (tot D.fs : Nat) ∧ σ.Same σ' := by
  refine ok_disk_Disk_Size fun live => ?_
  unfold F_disk_Disk_Size
  obtain ⟨hbl, hml⟩ := h.lt live
  have g := h.gb
  unfold Ds.cells at g
  have gm := h.gm
  rw [encE_fs] at gm
  have ok := h.ok
  refine To.go ?_
  refine join1 (fun (x : Int) σ' => x = (tot D.fs : Nat) ∧ σ.Same σ') ?_ ?_
  · refine ifT (p := True) trivial ?_
    refine To.go ?_
    refine ldrw (σ := σ.bump 9) g (v := .map m) rfl ?_
    refine rangeM_step (σ := σ.bump 9) gm ?_
    refine To.go ?_
    obtain ⟨it, hit⟩ : ∃ it, σ.next + 8 = it := ⟨_, rfl⟩
    rw [hit]
    refine loop1 (fun (T : List Ent) (x : Int) σ' => x = (tot T : Nat) ∧ (∀ e ∈ T, e ∈ D.fs) ∧ (T.map (·.2.2)).Nodup ∧ σ.Same σ' ∧ it < σ'.next ∧ σ'.get it = some (.iter (some m) D.clock (T.map (·.2.2)) D.clock)) (fun T => D.fs.length - T.length) [] ⟨rfl, by simp, by simp, Mem.Same.put ((Mem.Same.refl σ).bump _) (by omega) _, by simp only [Mem.next_put, Mem.next_bump]; omega, gS'⟩ ?_
    rintro T _ σ1 ⟨rfl, hT, hTn, s1, n1, hi⟩
    unfold F_disk_Disk_Size_l1
    rw [hit]
    have gm1 := (s1.get m hml).trans gm
    refine nextM_step (σ := σ1.bump 2) hi gm1 (fun e he => ?_) (Nat.le_refl _) (fun hall => ?_) (fun e he hns => ?_)
    · obtain ⟨x, hx, rfl⟩ := List.mem_map.1 he
      exact ok.born x hx
    · refine tpB_of rfl ?_
      refine ifF (p := False) id ?_
      have hp := all_seen (f := fun e : Ent => e.2.2) hT hTn ok.bnd fun x hx => hall (entA x) (List.mem_map_of_mem hx)
      exact ⟨by rw [tot_perm hp], s1.bump _⟩
    · obtain ⟨x, hx, rfl⟩ := List.mem_map.1 he
      refine tpB_of rfl ?_
      refine ifT (p := True) trivial ?_
      obtain ⟨σ2, h2⟩ : ∃ σ2, σ2 = (σ1.bump 2).put it (some (.iter (some m) D.clock (T.map (·.2.2) ++ [(entA x).2.2]) D.clock)) := ⟨_, rfl⟩
      rw [← h2]
      have s2 : σ.Same σ2 := by rw [h2]; exact Mem.Same.put (s1.bump _) (by omega) _
      have n2 : σ2.next = σ1.next + 2 := by rw [h2]; rfl
      have hi2 : σ2.get it = some (.iter (some m) D.clock (T.map (·.2.2) ++ [(entA x).2.2]) D.clock) := by rw [h2, gS']
      clear h2
      refine entM_step (σ := σ2.bump 4) hi2 ((s2.get m hml).trans gm) he (by rw [fs_born]; exact ok.bnd) ?_
      refine tupW_of rfl ?_
      refine To.go ?_
      obtain ⟨⟨k, ⟨da, sy⟩, bo⟩, hxe⟩ : ∃ y : Ent, y = x := ⟨x, rfl⟩
      subst hxe
      have hTx : ((T ++ [(k, (da, sy), bo)]).map (·.2.2)).Nodup := by
        rw [List.map_append, List.nodup_append]
        refine ⟨hTn, by simp, fun a ha c hc => ?_⟩
        simp only [List.map_cons, List.map_nil, List.mem_singleton] at hc
        subst hc
        intro e; subst e
        exact hns ha
      have hTs : ∀ e ∈ T ++ [(k, (da, sy), bo)], e ∈ D.fs := fun e he => by
        rcases List.mem_append.1 he with he | he
        · exact hT e he
        · rw [List.mem_singleton.1 he]; exact hx
      have hle := tot_sub hTs hTx
      have hsum := ok.sum
      rw [tot_snoc] at hle
      dsimp only at hle
      have hsum' : tot D.fs ≤ 16777216 := hsum
      have hlen : T.length + 1 ≤ D.fs.length := by
        have := len_sub hTs hTx
        rw [List.length_append] at this
        exact this
      refine stn gS' (by simp) rfl rfl ?_
      refine To.go ?_
      refine ldrw (K := fun a => castS a _) (gB gS') (v := .str da) rfl ?_
      refine iW_of (by omega) ?_
      refine again ⟨T ++ [(k, (da, sy), bo)], ⟨by rw [tot_snoc]; dsimp only; omega, hTs, hTx, ?_, ?_, ?_⟩, by rw [List.length_append]; simp only [List.length_cons, List.length_nil]; omega⟩
      · refine Mem.Same.bump (Mem.Same.put (Mem.Same.put (s2.bump _) (by omega) _) (by omega) _) _
      · simp only [Mem.next_put, Mem.next_bump]; omega
      · rw [List.map_append]
        exact gB (gN (by omega) (gN (by omega) (gB hi2)))
  · rintro _ σ1 ⟨rfl, s1⟩
    unfold F_disk_Disk_Size_j1
    exact ⟨rfl, s1.bump _⟩
end Go.Vit
