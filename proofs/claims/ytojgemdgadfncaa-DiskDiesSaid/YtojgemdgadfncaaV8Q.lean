/- The law DiskDies. -/
import Derived.Test.YtojgemdgadfncaaV8L
set_option linter.unusedVariables false
set_option linter.unusedSimpArgs false
set_option linter.unusedSimpArgs false
set_option maxRecDepth 20000
set_option maxRecDepth 20000
namespace Go.Vit
open Go.Proofs
theorem disk_Sync_wrong {σ : Mem} {b m : Nat} {D : Ds} {f : Int} (h : Dsk σ b m D) (hw : wrongD D f ≠ 0) : ACalls PG n_disk_Disk_Sync [.ptr b 0, .int .i64 f] σ fun v σ' => v = .int .i64 (wrongD D f) ∧ σ.Same σ' := by
  refine ok_disk_Disk_Sync fun live => ?_
  unfold F_disk_Disk_Sync
  obtain ⟨hbl, hml⟩ := h.lt live
  refine boxW_ptr ?_
  refine To.go ?_
  refine To.go ?_
  refine ldrw (v := .ptr b 0) (gB (gN (by omega) gS')) rfl ?_
  refine To.go ?_
  refine ldrw (K := fun a => castI .i64 a _) (v := .int .i64 f) (gB gS') rfl ?_
  refine To.go ?_
  have s1 : σ.Same ((((σ.bump 3).put σ.next (some (.rw (AV.ptr b 0).cells))).put (σ.next + 1) (some (.rw [.int .i64 f]))).bump 4) := Mem.Same.bump (Mem.Same.put (Mem.Same.put ((Mem.Same.refl σ).bump _) (by omega) _) (by omega) _) _
  refine callW_of (disk_wrong (D := D) (h.same s1 hbl hml)) ?_
  rintro _ σ2 ⟨rfl, s2⟩
  refine To.go ?_
  refine ifT hw ?_
  exact ⟨rfl, (s1.trans s2).bump _⟩
theorem disk_Read_wrong {σ : Mem} {b m : Nat} {D : Ds} {f : Int} (h : Dsk σ b m D) (hw : wrongD D f ≠ 0) : ACalls PG n_disk_Disk_Read [.ptr b 0, .int .i64 f] σ fun v σ' => v = .tup [.str ⟨#[]⟩, .int .i64 (wrongD D f)] ∧ σ.Same σ' := by
  refine ok_disk_Disk_Read fun live => ?_
  unfold F_disk_Disk_Read
  refine callW_of (disk_wrong (σ := σ.bump 6) (h.keep rfl rfl)) ?_
  rintro _ σ1 ⟨rfl, s1⟩
  refine To.go ?_
  refine ifT hw ?_
  exact ⟨rfl, s1.ob.bump _⟩
def dieD (a : Int) (i : Nat) : Ds := if 1 ≤ a ∧ a ≤ i then ⟨[], 0, 1000, 0, true, a⟩ else ⟨[], 0, 1000, if 1 ≤ a then a - i else 0, false, i⟩
theorem dieD_dead (a : Int) (i : Nat) : (dieD a i).dead = decide (1 ≤ a ∧ a ≤ i) := by
  unfold dieD
  by_cases h : 1 ≤ a ∧ a ≤ i
  · rw [if_pos h, decide_eq_true h]
  · rw [if_neg h, decide_eq_false h]
theorem dieD_wrong {a : Int} {i : Nat} {f : Int} (hf : 0 ≤ f ∧ f < 65536) : wrongD (dieD a i) f = if 1 ≤ a ∧ a ≤ i then 50 else 0 := by
  unfold wrongD
  rw [dieD_dead]
  by_cases h : 1 ≤ a ∧ a ≤ i
  · rw [if_pos (decide_eq_true h), if_pos h]
  · rw [decide_eq_false h, if_neg (by simp), if_neg (by omega), if_neg h]
theorem dieD_next {a : Int} {i : Nat} {f : Int} (h : ¬ (1 ≤ a ∧ a ≤ i)) : synD (dieD a i) f = dieD a (i + 1) ∧ deadE (stepD (dieD a i)) = if 1 ≤ a ∧ a ≤ (i + 1 : Nat) then 50 else 0 := by
  have e : dieD a i = ⟨[], 0, 1000, if 1 ≤ a then a - i else 0, false, i⟩ := by unfold dieD; rw [if_neg h]
  have e2 : stepD (dieD a i) = dieD a (i + 1) := by
    rw [e]
    unfold stepD dieD
    dsimp only
    by_cases h1 : 1 ≤ a
    · rw [if_pos h1, if_pos (by omega), if_pos (by omega)]
      by_cases h2 : 1 ≤ a ∧ a ≤ ((i + 1 : Nat) : Int)
      · rw [if_pos h2, show a - (i : Int) - 1 = 0 from by omega, show (i : Int) + 1 = a from by omega]; rfl
      · rw [if_neg h2, if_pos h1, decide_eq_false (by omega : ¬ a - (i : Int) - 1 = 0), show a - (i : Int) - 1 = a - ((i + 1 : Nat) : Int) from by omega]; rfl
    · rw [if_neg h1, if_neg (by omega), if_neg (by omega), if_neg (by omega), if_neg h1]; rfl
  have e3 : synD (dieD a i) f = stepD (dieD a i) := by
    have hg : getF (dieD a i).fs f = none := by rw [e]; rfl
    unfold synD chgD
    rw [hg]
    split <;> rfl
  refine ⟨by rw [e3, e2], ?_⟩
  rw [e2]
  unfold deadE
  rw [dieD_dead]
  by_cases h2 : 1 ≤ a ∧ a ≤ ((i + 1 : Nat) : Int)
  · rw [if_pos h2, if_pos (decide_eq_true h2)]
  · rw [if_neg h2, decide_eq_false h2]; rfl
theorem eqB {x y : Bool} {K : Bool → Prop} (h : x = y) (hk : K true) : eqW .bool (.bool x) (.bool y) K := by
  subst h
  show K (x == x)
  rw [beq_self_eq_true]; exact hk
theorem law16_DiskDies (σ : Mem) (l : List AV) (_ : σ.Ro) (hw : Wts PG σ Try.f4.params.toList l) : ACalls PG n_law16_DiskDies l σ fun v _ => isTrue v := by
  rw [show Try.f4.params.toList = [3, 3] from by rw [Try.params4]] at hw
  obtain ⟨a, r, rfl, ha, hw⟩ := hw.int (k := .i64) (by kernel_rfl)
  obtain ⟨n, r, rfl, hn, hw⟩ := hw.int (k := .i64) (by kernel_rfl)
  obtain rfl := hw.nil_inv
  have ha := wf_i64 ha
  unfold inI64 at ha
  refine ok_law16_DiskDies fun live => ?_
  unfold F_law16_DiskDies
  refine callW_of (disk_New_ok (n := 1000) (by decide)) ?_
  rintro _ σ1 ⟨b, m, rfl, _, hb, _, hm, h, _⟩
  refine tupW_of rfl ?_
  refine tpI_of rfl ?_
  refine ifF (not_not_intro rfl) ?_
  refine To.go ?_
  refine ifF (p := False) id ?_
  refine callW_of (disk_Arm (σ := σ1.bump 9) (n := a) (h.keep rfl rfl) (by omega)) ?_
  rintro _ σ2 ⟨h2, o2⟩
  have n2 := o2.next
  simp only [Mem.next_bump] at n2
  have e0 : ({ (⟨[], 0, 1000, 0, false, 0⟩ : Ds) with armed := imax a 0 } : Ds) = dieD a 0 := by
    have hi : imax a 0 = if 1 ≤ a then a - ((0 : Nat) : Int) else 0 := by
      unfold imax
      split <;> split <;> omega
    unfold dieD
    rw [if_neg (by omega), ← hi]; rfl
  rw [e0] at h2
  dsimp only [letW]
  obtain ⟨k, hk⟩ : ∃ k : Int, imin (imax n 0) 200 = k := ⟨_, rfl⟩
  have hkb : 0 ≤ k ∧ k ≤ 200 := by
    rw [← hk]
    unfold imin imax
    split <;> split <;> omega
  rw [hk]
  obtain ⟨k, rfl⟩ := int_nat hkb.1
  refine loop1 (fun (i : Nat) (y : Int) σ' => y = (i : Int) + 1 ∧ i ≤ k ∧ Dsk σ' b m (dieD a i) ∧ b < σ'.next ∧ m < σ'.next) (fun i => k - i) 0 ⟨rfl, Nat.zero_le _, h2.keep rfl rfl, by simp only [Mem.next_bump]; omega, by simp only [Mem.next_bump]; omega⟩ ?_
  rintro i _ σ3 ⟨rfl, hi, h3, hb3, hm3⟩
  unfold F_law16_DiskDies_l1
  refine ifD (fun hlt => ?_) (fun hge => ?_)
  · have hwr := dieD_wrong (a := a) (i := i) (f := (i : Int) + 1) (by omega)
    obtain ⟨c, hc⟩ : ∃ c : Int, (if 1 ≤ a ∧ a ≤ ((i + 1 : Nat) : Int) then (50 : Int) else 0) = c := ⟨_, rfl⟩
    have hc0 : c = 0 ∨ c = 50 := by rw [← hc]; split <;> simp
    refine callW_of (Q := fun v σ' => v = .int .i64 c ∧ Dsk σ' b m (dieD a (i + 1)) ∧ b < σ'.next ∧ m < σ'.next) ?_ ?_
    · by_cases hd : 1 ≤ a ∧ a ≤ i
      · rw [if_pos hd] at hwr
        refine (disk_Sync_wrong (σ := σ3.bump 7) (h3.keep rfl rfl) (by rw [hwr]; decide)).mono ?_
        rintro _ σ4 ⟨rfl, s4⟩
        have s34 := s4.ob
        have n4 := s34.next
        have e : dieD a i = dieD a (i + 1) := by unfold dieD; rw [if_pos hd, if_pos (by omega)]
        rw [hwr, ← hc, if_pos (by omega)]
        rw [← e]
        exact ⟨rfl, h3.same s34 hb3 hm3, by omega, by omega⟩
      · rw [if_neg hd] at hwr
        obtain ⟨e1, e2⟩ := dieD_next (f := (i : Int) + 1) hd
        refine (disk_Sync (σ := σ3.bump 7) (h3.keep rfl rfl) hwr ?_).mono ?_
        · unfold dieD; rw [if_neg hd]; dsimp only; omega
        rintro _ σ4 ⟨rfl, h4, o4⟩
        have n4 := o4.next
        simp only [Mem.next_bump] at n4
        rw [e1] at h4
        exact ⟨by rw [e2, hc], h4, by omega, by omega⟩
    · rintro _ σ4 ⟨rfl, h4, hb4, hm4⟩
      refine To.go ?_
      have go : Again (∃ j : Nat, (((i : Int) + 1 + 1 = (j : Int) + 1 ∧ j ≤ k ∧ Dsk (σ4.bump 21) b m (dieD a j) ∧ b < (σ4.bump 21).next ∧ m < (σ4.bump 21).next) ∧ k - j < k - i)) := again ⟨i + 1, ⟨by omega, by omega, h4.keep rfl rfl, by simp only [Mem.next_bump]; omega, by simp only [Mem.next_bump]; omega⟩, by omega⟩
      have end1 : ifB (decide (c ≠ 0)) (ifB (decide (c ≠ 50)) (isTrue (.bool false)) (iW ((i : Int) + 1 + 1) fun v16 => Again (∃ j : Nat, ((v16 = (j : Int) + 1 ∧ j ≤ k ∧ Dsk (σ4.bump 21) b m (dieD a j) ∧ b < (σ4.bump 21).next ∧ m < (σ4.bump 21).next) ∧ k - j < k - i)))) (iW ((i : Int) + 1 + 1) fun v17 => Again (∃ j : Nat, ((v17 = (j : Int) + 1 ∧ j ≤ k ∧ Dsk (σ4.bump 21) b m (dieD a j) ∧ b < (σ4.bump 21).next ∧ m < (σ4.bump 21).next) ∧ k - j < k - i))) := by
        rcases hc0 with rfl | rfl
        · refine ifF (by decide) ?_
          refine iW_of (by omega) ?_
          exact go
        · refine ifT (by decide) ?_
          refine ifF (by decide) ?_
          refine iW_of (by omega) ?_
          exact go
      refine ifD (fun h1 => ?_) (fun h1 => ?_)
      · refine eqB (by rw [← hc, if_neg (by omega)]; rfl) ?_
        refine ifF (p := False) id ?_
        exact end1
      · refine eqB ?_ ?_
        · rw [← hc]
          by_cases h2 : 1 ≤ a ∧ a ≤ ((i + 1 : Nat) : Int)
          · rw [if_pos h2]; symm; rw [decide_eq_false (by omega)]; rfl
          · rw [if_neg h2]; symm; rw [decide_eq_true (by omega)]; rfl
        · refine ifF (p := False) id ?_
          exact end1
  · obtain rfl : i = k := by omega
    refine join1 (fun (d : Bool) σ' => d = decide (1 ≤ a ∧ a ≤ i) ∧ Dsk σ' b m (dieD a i) ∧ b < σ'.next ∧ m < σ'.next) ?_ ?_
    · refine ifD (fun h1 => ?_) (fun h1 => ?_)
      · refine ⟨?_, h3.keep rfl rfl, by simp only [Mem.next_bump]; omega, by simp only [Mem.next_bump]; omega⟩
        exact decide_eq_decide.2 ⟨fun h => ⟨h1, h⟩, fun h => h.2⟩
      · exact ⟨by rw [decide_eq_false (by omega)], h3.keep rfl rfl, by simp only [Mem.next_bump]; omega, by simp only [Mem.next_bump]; omega⟩
    · rintro d σ4 ⟨hd, h4, hb4, hm4⟩
      unfold F_law16_DiskDies_j1
      have hwr := dieD_wrong (a := a) (i := i) (f := 0) (by decide)
      have hfs : (dieD a i).fs = [] ∧ (dieD a i).limit = 1000 ∧ 0 ≤ (dieD a i).steps ∧ (dieD a i).steps ≤ 200 := by
        unfold dieD
        split
        · exact ⟨rfl, rfl, by dsimp only; omega, by dsimp only; omega⟩
        · exact ⟨rfl, rfl, by dsimp only; omega, by dsimp only; omega⟩
      refine callW_of (Q := fun v σ' => v = .tup [.str ⟨#[]⟩, .int .i64 (if 1 ≤ a ∧ a ≤ i then 50 else 0)] ∧ σ4.Same σ') ?_ ?_
      · by_cases hdd : 1 ≤ a ∧ a ≤ i
        · rw [if_pos hdd] at hwr ⊢
          refine (disk_Read_wrong (σ := σ4.bump 7) (h4.keep rfl rfl) (by rw [hwr]; decide)).mono ?_
          rintro _ σ5 ⟨rfl, s5⟩
          exact ⟨by rw [hwr], s5.ob⟩
        · rw [if_neg hdd] at hwr ⊢
          refine (disk_Read (σ := σ4.bump 7) (h4.keep rfl rfl) hwr).mono ?_
          rintro _ σ5 ⟨rfl, s5⟩
          exact ⟨by rw [hfs.1]; rfl, s5.ob⟩
      rintro _ σ5 ⟨rfl, s5⟩
      have n5 := s5.next
      have h5 := h4.same s5 hb4 hm4
      refine tpS_of rfl ?_
      refine tpI_of rfl ?_
      refine callW_of (disk_Dead (σ := σ5.bump 10) (h5.keep rfl rfl)) ?_
      rintro _ σ6 ⟨rfl, s6⟩
      have s56 := s6.ob
      have n6 := s56.next
      have h6 := h5.same s56 (by omega) (by omega)
      refine To.go ?_
      refine eqB (by rw [dieD_dead, hd]) ?_
      refine ifF (p := False) id ?_
      refine eqB ?_ ?_
      · rw [hd]
        by_cases hdd : 1 ≤ a ∧ a ≤ i
        · rw [if_pos hdd, decide_eq_true hdd]; rfl
        · rw [if_neg hdd, decide_eq_false hdd]; rfl
      refine ifF (p := False) id ?_
      refine callW_of (disk_Crash (σ := σ6.bump 2) (ks := []) (h6.keep rfl rfl) (by rw [hfs.1]; decide) (.inr ⟨rfl, .inl rfl⟩) (by simp) (by simp [blkOf])) ?_
      rintro _ σ7 ⟨h7, o7⟩
      have n7 := o7.next
      simp only [Mem.next_bump] at n7
      have hcr : crashD (dieD a i) [] = { dieD a i with dead := false, armed := 0 } := by
        unfold crashD numbs
        rw [hfs.1]; rfl
      rw [hcr] at h7
      refine callW_of (disk_Dead (σ := σ7.bump 12) (h7.keep rfl rfl)) ?_
      rintro _ σ8 ⟨rfl, s8⟩
      have s78 := s8.ob
      have n8 := s78.next
      have h8 := h7.same s78 (by omega) (by omega)
      refine To.go ?_
      refine ifT (p := True) trivial ?_
      refine callW_of (disk_Append (σ := σ8) (f := 0) (s := ⟨#[120]⟩) h8 rfl (by decide) (by show ¬ (dieD a i).limit < ((tot (dieD a i).fs + 1 : Nat) : Int); rw [hfs.1, hfs.2.1]; decide) (by show (dieD a i).steps < 2 ^ 62; omega)) ?_
      rintro _ σ9 ⟨rfl, _, _⟩
      refine To.go ?_
      refine ifT rfl ?_
      refine callW_of (law16_awake _) ?_
      rintro _ σ10 rfl
      exact rfl
end Go.Vit
