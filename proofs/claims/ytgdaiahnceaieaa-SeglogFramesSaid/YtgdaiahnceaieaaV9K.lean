/- A disk: Files, Crash. -/
import Derived.Test.YtgdaiahnceaieaaV9J
import Derived.Test.YtgdaiahnceaieaaVm3
set_option linter.unusedVariables false
set_option linter.unusedSimpArgs false
set_option linter.unusedSimpArgs false
set_option maxRecDepth 20000
namespace Go.Vit
open Go.Proofs
def numbs (D : Ds) : List Int := srt (D.fs.map (·.1))
theorem disk_Files {σ : Mem} {b m : Nat} {D : Ds} (h : Dsk σ b m D) (hl : D.fs.length ≤ 12) : ACalls PG n_disk_Disk_Files [.ptr b 0] σ fun v σ' => Own 1 σ σ' v (ic (numbs D)) D.fs.length ∧ σ.Same σ' := by
  refine ok_disk_Disk_Files fun live => ?_
  unfold F_disk_Disk_Files
  obtain ⟨hbl, hml⟩ := h.lt live
  have g := h.gb
  unfold Ds.cells at g
  have ok := h.ok
  refine To.go ?_
  refine ifF (p := False) id ?_
  refine To.go ?_
  refine ldrw (σ := σ.bump 10) g (v := .map m) rfl ?_
  refine callW_of (Q := fun v σ' => ∃ c, v = .func n_maps_Keys_map_int_disk_file_int_disk_file__1 [.ptr c 0] ∧ σ'.get c = some (.rw [.map m]) ∧ σ.next ≤ c ∧ c < σ'.next ∧ σ.Same σ') ?_ ?_
  · refine ok_maps_Keys_map_int_disk_file_int_disk_file_ fun _ => ?_
    unfold F_maps_Keys_map_int_disk_file_int_disk_file_
    refine boxW_map ?_
    refine To.go ?_
    exact ⟨_, rfl, gB gS', by simp only [Mem.next_bump]; omega, by simp only [Mem.next_put, Mem.next_bump]; omega, Mem.Same.bump (Mem.Same.put (((Mem.Same.refl σ).bump _).bump _) (by simp only [Mem.next_bump]; omega) _) _⟩
  · rintro _ σ1 ⟨c, rfl, hc, hc1, hc2, s1⟩
    have n1 := s1.next
    refine callW_of (Q := fun v σ' => Own 1 σ σ' v (ic (numbs D)) D.fs.length ∧ σ.Same σ') ?_ ?_
    · refine ok_slices_Sorted_int_ fun _ => ?_
      unfold F_slices_Sorted_int_
      refine callW_of (Q := fun v σ' => ∃ T : List Ent, T.Perm D.fs ∧ Own 1 (σ1.bump 4) σ' v (ic (T.map (·.1))) T.length ∧ (σ1.bump 4).Same σ') ?_ ?_
      · refine ok_slices_Collect_int_ fun _ => ?_
        unfold F_slices_Collect_int_
        refine callW_of (AppendSeq_keys (σ := (σ1.bump 4).bump 4) (c := c) (m := m) (clock := D.clock) (fs := D.fs) hc ?_ ok.born ok.bnd (by omega)) ?_
        · show σ1.get m = _
          rw [s1.get m hml, ← encE_fs]; exact h.gm
        · rintro v σ2 ⟨T, hT, own, s2⟩
          refine ⟨T, hT, ⟨own.1, fun b hb => ?_⟩, s2.ob⟩
          have := own.2 b hb
          simp only [Mem.next_bump] at this ⊢
          omega
      · rintro v σ2 ⟨T, hT, own, s2⟩
        have hTl := hT.length_eq
        have own2 : Own 1 σ (σ2.bump 2) v (ic (T.map (·.1))) (T.map (·.1)).length := by
          rw [List.length_map]
          refine ⟨own.1.keep fun _ _ => rfl, fun b hb => ?_⟩
          have := own.2 b hb
          simp only [Mem.next_bump] at this ⊢
          omega
        have s02 : σ.Same (σ2.bump 2) := (s1.trans s2.ob).bump 2
        refine callW_of (slices_Sort own2 s02 (by rw [List.length_map]; omega)) ?_
        rintro _ σ3 ⟨own3, s3⟩
        have e : srt (T.map (·.1)) = numbs D := srt_comm (hT.map _)
        rw [e, List.length_map, hTl] at own3
        exact ⟨own3.same ((Mem.Same.refl _).bump _), s3.bump _⟩
    · rintro v σ2 ⟨own, s2⟩
      exact ⟨own, s2⟩
def KG (σ : Mem) (v : AV) (ks : List Int) : Prop :=
  (v = .nils ∧ ks = []) ∨ ∃ b z c, v = .slice b z ks.length c ∧ c.fits 1 = true ∧ ks.length ≤ c.least ks.length ∧ ∃ q cells, σ.get b = some q ∧ q.cellsR = some cells ∧ (cells.drop z).take ks.length = ic ks ∧ z + ks.length ≤ cells.length
theorem KG.keep {σ σ' : Mem} {v : AV} {ks : List Int} (h : KG σ v ks) (hb : ∀ c ∈ blkOf v, σ'.get c = σ.get c) : KG σ' v ks := by
  rcases h with h | ⟨b, z, c, rfl, h1, h2, q, cells, h3, h4⟩
  · exact .inl h
  · exact .inr ⟨b, z, c, rfl, h1, h2, q, cells, (hb b (by simp [blkOf])).trans h3, h4⟩
theorem KG.lt {σ : Mem} {v : AV} {ks : List Int} (h : KG σ v ks) (live : σ.Live) : ∀ c ∈ blkOf v, c < σ.next := by
  rcases h with ⟨rfl, _⟩ | ⟨b, z, c, rfl, h1, h2, q, cells, h3, h4⟩
  · intro c hc; simp [blkOf] at hc
  · intro c hc; simp only [blkOf, List.mem_singleton] at hc; subst hc; exact live.lt h3
theorem KG.len {σ : Mem} {v : AV} {ks : List Int} (h : KG σ v ks) {K : Int → Prop} (hk : K (ks.length : Nat)) : slenW v K := by
  rcases h with ⟨rfl, rfl⟩ | ⟨b, z, c, rfl, _⟩ <;> exact hk
theorem KG.hd {σ : Mem} {v : AV} {k : Int} {ks : List Int} (h : KG σ v (k :: ks)) {K : Int → Prop} (hk : K k) : idxW 1 v 0 fun p => ldI σ p K := by
  rcases h with ⟨_, h⟩ | ⟨b, z, c, rfl, _, _, q, cells, h1, h2, h3, h4⟩
  · cases h
  · rw [List.length_cons] at h3 h4 ⊢
    refine And.intro (show (0 : Int) ≤ 0 ∧ (0 : Int) < ((ks.length + 1 : Nat) : Int) by omega) ?_
    refine ldq (K := fun a => castI .i64 a K) h1 (v := .int .i64 k) ?_ hk
    rw [h2]
    show cells[z + 0 * 1]? = _
    have h5 : (ic (k :: ks))[0]? = some (.int .i64 k) := rfl
    rw [← h3, List.getElem?_take, if_pos (by omega), List.getElem?_drop] at h5
    simpa using h5
theorem KG.tl {σ : Mem} {v : AV} {k : Int} {ks : List Int} (h : KG σ v (k :: ks)) {K : AV → Prop} (hk : ∀ w, KG σ w ks → (∀ c ∈ blkOf w, c ∈ blkOf v) → K w) : slcW 1 v (some 1) none K := by
  rcases h with ⟨_, h⟩ | ⟨b, z, c, rfl, hf, hl, q, cells, h1, h2, h3, h4⟩
  · cases h
  · rw [List.length_cons] at h3 h4 hl ⊢
    refine ⟨⟨hf, show (0 : Int) ≤ 1 by decide, show (1 : Int) ≤ ((ks.length + 1 : Nat) : Int) by omega, show ((ks.length + 1 : Nat) : Int) ≤ (c.least (ks.length + 1) : Nat) by omega⟩, ?_⟩
    show K (.slice b (z + 1 * 1) (ks.length + 1 - 1) (c.cut false 1 (c.least (ks.length + 1))))
    rw [Nat.mul_one, Nat.add_sub_cancel]
    refine hk _ (.inr ⟨b, z + 1, _, rfl, ?_, ?_, q, cells, h1, h2, ?_, by omega⟩) (fun c hc => hc)
    · cases c <;> exact hf
    · cases c with
      | ex n =>
        have hl2 : ks.length + 1 ≤ n := hl
        show ks.length ≤ n - 1
        omega
      | op s => exact Nat.le_refl _
    · have h6 : ((cells.drop z).take (ks.length + 1)).drop 1 = ic ks := by rw [h3]; rfl
      rw [List.drop_take, List.drop_drop, Nat.add_sub_cancel] at h6
      exact h6
theorem KG.one {σ : Mem} {b : Nat} {k : Int} (h : σ.get b = some (.rw [.int .i64 k])) : KG σ (.slice b 0 1 (.ex 1)) [k] :=
  .inr ⟨b, 0, .ex 1, rfl, rfl, Nat.le_refl _, _, _, h, rfl, rfl, Nat.le_refl _⟩
end Go.Vit
