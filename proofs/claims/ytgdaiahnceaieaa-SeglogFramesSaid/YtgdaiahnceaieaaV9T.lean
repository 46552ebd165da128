/- The file of a log. -/
import Derived.Test.YtgdaiahnceaieaaV9S
set_option linter.unusedVariables false
set_option linter.unusedSimpArgs false
set_option linter.unusedSimpArgs false
set_option maxRecDepth 20000
namespace Go.Vit
open Go.Proofs
theorem slices_Reverse {σ : Mem} {v : AV} {L : List Int} (hl : L.length ≤ 2 ^ 40) {k : Nat} (h : OwnS 1 σ v (ic L) k) (hk : k = L.length) : ACalls PG n_slices_Reverse___int_int_ [v] σ fun _ σ' => OwnS 1 σ' v (ic L.reverse) k ∧ Mem.Only (blkOf v) σ σ' := by
  subst hk
  refine ok_slices_Reverse___int_int_ fun live => ?_
  unfold F_slices_Reverse___int_int_
  refine h.len ?_
  refine iW_of (by omega) ?_
  rcases h with ⟨rfl, h0, _⟩ | ⟨b, rfl, hg, _⟩
  · have e : L = [] := List.length_eq_zero_iff.1 h0
    subst e
    refine loop2 (g1 := tI) (g2 := tI) (fun (i : Nat) (x y : Int) σ' => x = 0 ∧ y = -1 ∧ σ.Same σ') (fun i => i) 0 ⟨rfl, rfl, (Mem.Same.refl σ).bump _⟩ ?_
    rintro i _ _ σ1 ⟨rfl, rfl, s1⟩
    unfold F_slices_Reverse___int_int__l1
    refine ifF (by omega) ?_
    exact ⟨.nil 1 _, (s1.bump _).only _⟩
  · refine loop2 (g1 := tI) (g2 := tI) (fun (i : Nat) (x y : Int) σ' => x = (i : Nat) ∧ y = (L.length : Int) - 1 - i ∧ i ≤ L.length ∧ Mem.Only [b] σ σ' ∧ ∃ M : List Int, σ'.get b = some (.rw (ic M)) ∧ M.length = L.length ∧ ∀ j, j < L.length → gd M j = if j < i ∨ L.length ≤ j + i then gd L (L.length - 1 - j) else gd L j)
      (fun i => L.length - i) 0 ⟨rfl, by omega, by omega, (Mem.Only.refl _ _).bump _, L, hg, rfl, fun j hj => by rw [if_neg (by omega)]⟩ ?_
    rintro i _ _ σ1 ⟨rfl, rfl, hi, o1, M, hg1, hM, hj⟩
    unfold F_slices_Reverse___int_int__l1
    refine ifD (fun hlt => ?_) (fun hge => ?_)
    · obtain ⟨n, hn⟩ : ∃ n, L.length = n := ⟨_, rfl⟩
      rw [hn] at hlt hi hM hj ⊢
      have hy : (n : Int) - 1 - (i : Int) = ((n - 1 - i : Nat) : Int) := by omega
      obtain ⟨y, hyy⟩ : ∃ y, n - 1 - i = y := ⟨_, rfl⟩
      rw [hy, hyy]
      refine rdC (σ := σ1.bump 19) (L := M) hg1 (i := y) (by omega) (by omega) rfl ?_
      refine rdC (σ := σ1.bump 19) (L := M) hg1 (i := i) (by omega) (by omega) rfl ?_
      refine wrC (σ := σ1.bump 19) (L := M) hg1 (i := i) (by omega) (by omega) rfl ?_
      obtain ⟨σ2, e2⟩ : ∃ σ2, σ2 = (σ1.bump 19).put b (some (.rw (ic (M.set i (gd M y))))) := ⟨_, rfl⟩
      rw [← e2]
      have g2 : σ2.get b = some (.rw (ic (M.set i (gd M y)))) := by rw [e2, gS']
      have o2 : Mem.Only [b] σ σ2 := by rw [e2]; exact Mem.Only.put (o1.bump _) (by simp) _
      clear e2
      refine wrC (σ := σ2) (L := M.set i (gd M y)) g2 (i := y) (by omega) (by rw [List.length_set]; omega) rfl ?_
      refine iW_of (by omega) ?_
      refine iW_of (by omega) ?_
      refine again ⟨i + 1, ⟨by omega, by omega, by omega, (Mem.Only.put o2 (by simp) _).bump _, (M.set i (gd M y)).set y (gd M i), gS', by rw [List.length_set, List.length_set]; exact hM, fun j hj2 => ?_⟩, by omega⟩
      rw [gd_set (by rw [List.length_set]; omega), gd_set (by omega)]
      by_cases h1 : j = y
      · rw [if_pos h1, if_pos (by omega), hj i (by omega), if_neg (by omega), show n - 1 - j = i from by omega]
      · rw [if_neg h1]
        by_cases h2 : j = i
        · rw [if_pos h2, if_pos (by omega), hj y (by omega), if_neg (by omega), h2, hyy]
        · rw [if_neg h2, hj j hj2]
          by_cases h3 : j < i ∨ n ≤ j + i
          · rw [if_pos h3, if_pos (by omega)]
          · rw [if_neg h3, if_neg (by omega)]
    · have e : M = L.reverse := by
        refine List.ext_getElem (by rw [List.length_reverse]; exact hM) fun j h1 h2 => ?_
        have h3 := hj j (by omega)
        rw [gd_eq h1] at h3
        rw [List.getElem_reverse, h3]
        split
        · rw [gd_eq (by omega)]
        · rw [← gd_eq (by omega), show L.length - 1 - j = j from by omega]
      refine ⟨.inr ⟨b, rfl, ?_, by rw [ic_len, List.length_reverse]; omega⟩, o1.bump _⟩
      rw [← e]; exact hg1
def newR (D : Ds) : List Int → Option (Int × List ByteArray × Nat)
  | [] => none
  | f :: l => match fndR (curF D f).1 with
    | some p => some (f, p)
    | none => newR D l
def newO (D : Ds) : Option (Int × List ByteArray × Nat) := newR D (numbs D).reverse
def logC (b : Nat) (f : Int) (begun dead : Bool) : List AV := [.ptr b 0, .int .i64 f, .bool begun, .bool dead]
def newV (b l : Nat) (w : AV) (o : Option (Int × List ByteArray × Nat)) (σ σ' : Mem) (v : AV) : Prop :=
  match o with
  | none => v = .tup [.ptr l 0, .nils, .int .i64 0, .int .i64 0] ∧ σ'.get l = some (.rw (logC b 0 false false))
  | some (f, own, e) => v = .tup [.ptr l 0, w, .int .i64 (e : Nat), .int .i64 0] ∧ σ'.get l = some (.rw (logC b f true false)) ∧ SL σ' w own ∧ ∀ b ∈ blkOf w, b ≠ l ∧ σ.next ≤ b ∧ b < σ'.next
def rngD (D : Ds) : Prop := ∀ e ∈ D.fs, 0 ≤ e.1 ∧ e.1 < 65536
theorem wrong0 {D : Ds} {f : Int} (hd : D.dead = false) (hf : 0 ≤ f ∧ f < 65536) : wrongD D f = 0 := by
  unfold wrongD
  rw [hd, if_neg (by simp), if_neg (by omega)]
theorem numbs_mem {D : Ds} {f : Int} : f ∈ numbs D ↔ f ∈ D.fs.map (·.1) := (srt_perm _).mem_iff
theorem seglog_newest {σ : Mem} {b m : Nat} {D : Ds} (h : Dsk σ b m D) (hd : D.dead = false) (hl : D.fs.length ≤ 12) (hr : rngD D) :
    ACalls PG n_seglog_newest [.ptr b 0] σ fun v σ' => (∃ l w, σ.next ≤ l ∧ l < σ'.next ∧ newV b l w (newO D) σ σ' v) ∧ σ.Same σ' := by
  refine ok_seglog_newest fun live => ?_
  unfold F_seglog_newest
  obtain ⟨hbl, hml⟩ := h.lt live
  refine And.intro rfl ?_
  refine To.go ?_
  obtain ⟨l, hl0⟩ : ∃ l, σ.next + 6 = l := ⟨_, rfl⟩
  rw [hl0]
  obtain ⟨σ1, e1⟩ : ∃ σ1, σ1 = (σ.bump 8).put l (some (.rw (setAt [.nilp, .int .i64 0, .bool false, .bool false] 0 (AV.ptr b 0).cells))) := ⟨_, rfl⟩
  rw [← e1]
  have s1 : σ.Same σ1 := by rw [e1]; exact Mem.Same.put ((Mem.Same.refl σ).bump _) (by omega) _
  have n1 : σ1.next = σ.next + 8 := by rw [e1]; rfl
  have g1 : σ1.get l = some (.rw (logC b 0 false false)) := by rw [e1, gS']; rfl
  clear e1
  have hD1 := h.same s1 hbl hml
  refine callW_of (disk_Files (σ := σ1.bump 3) (hD1.keep rfl rfl) hl) ?_
  rintro v σ2 ⟨own, s2⟩
  have s12 := s2.ob
  have n2 := s2.next
  simp only [Mem.next_bump] at n2
  have hnl : (numbs D).length = D.fs.length := by unfold numbs; rw [srt_len, List.length_map]
  have hvb := own.2
  simp only [Mem.next_bump] at hvb
  refine callW_of (slices_Reverse (σ := σ2.bump 2) (L := numbs D) (by omega) (own.1.keep fun _ _ => rfl) hnl.symm) ?_
  rintro _ σ3 ⟨hR, o3⟩
  have n3 := o3.next
  simp only [Mem.next_bump] at n3
  have s03 : σ.Same σ3 := by
    refine ⟨by omega, fun c hc => ?_⟩
    rw [o3.get c (by simp only [Mem.next_bump]; omega) (fun hx => by have := hvb c hx; omega)]
    exact ((s12.get c (by omega)).trans (s1.get c hc))
  have g3 : σ3.get l = some (.rw (logC b 0 false false)) := by
    rw [o3.get l (by simp only [Mem.next_bump]; omega) (fun hx => by have := hvb l hx; omega)]
    exact (s12.get l (by omega)).trans g1
  refine hR.len ?_
  unfold newO
  obtain ⟨R, hRR⟩ : ∃ R, (numbs D).reverse = R := ⟨_, rfl⟩
  have hRl : R.length = D.fs.length := by rw [← hRR, List.length_reverse]; exact hnl
  have hRm : ∀ f ∈ R, f ∈ D.fs.map (·.1) := fun f hf => numbs_mem.1 (by rw [← hRR] at hf; exact List.mem_reverse.1 hf)
  rw [hRR] at hR ⊢
  rw [← hRl] at hR ⊢
  refine loop1 (g1 := tI) (fun (i : Nat) (x : Int) (σ' : Mem) => x = (i : Nat) ∧ i ≤ R.length ∧ newR D R = newR D (R.drop i) ∧ σ3.Same σ') (fun i => R.length - i) 0 ⟨rfl, by omega, rfl, (Mem.Same.refl σ3).bump _⟩ ?_
  rintro i _ σ4 ⟨rfl, hi, hnew, s4⟩
  unfold F_seglog_newest_l1
  rw [hl0]
  have n4 := s4.next
  have s04 := s03.trans s4
  have g4 : σ4.get l = some (.rw (logC b 0 false false)) := (s4.get l (by omega)).trans g3
  refine ifD (fun hlt => ?_) (fun hge => ?_)
  · have hi' : i < R.length := by omega
    rw [List.drop_eq_getElem_cons hi', newR] at hnew
    have hf := hRm R[i] (List.getElem_mem hi')
    obtain ⟨f, hff⟩ : ∃ f, R[i] = f := ⟨_, rfl⟩
    have hgdf : gd R i = f := by rw [gd_eq hi']; exact hff
    rw [hff] at hnew hf
    have hfr : 0 ≤ f ∧ f < 65536 := by
      obtain ⟨e, he, rfl⟩ := List.mem_map.1 hf
      exact hr e he
    obtain ⟨b2, rfl, hg2, _⟩ := hR.sl (by omega)
    have hg24 : σ4.get b2 = some (.rw (ic R)) := by
      rw [s4.get b2 (by have := hvb b2 (by simp [blkOf]); omega)]; exact hg2
    refine rdC (σ := σ4.bump 4) (L := R) hg24 (i := i) hi' hi' rfl ?_
    rw [hgdf]
    have hD4 := h.same s04 hbl hml
    refine callW_of (disk_Read (σ := σ4.bump 12) (f := f) (hD4.keep rfl rfl) (wrong0 hd hfr)) ?_
    rintro _ σ5 ⟨rfl, s5⟩
    have s45 := s5.ob
    have n5 := s45.next
    have s05 := s04.trans s45
    refine tpS_of rfl ?_
    refine tpI_of rfl ?_
    refine ifF (by decide) ?_
    rw [show (getF D.fs f).getD (⟨#[]⟩, 0) = curF D f from rfl]
    have hsz : (curF D f).1.size ≤ 2 ^ 30 := by
      have h1 := cur_tot (D := D) f
      have h2 : tot D.fs ≤ 16777216 := h.ok.sum
      omega
    refine callW_of (seglog_found (s := (curF D f).1) (σ := σ5.bump 11) hsz) ?_
    rintro v6 σ6 ⟨⟨w, hv⟩, s6⟩
    have s56 := s6.ob
    have s06 := s05.trans s56
    have n6 := s56.next
    have g6 : σ6.get l = some (.rw (logC b 0 false false)) := (s56.get l (by omega)).trans ((s45.get l (by omega)).trans g4)
    cases hfd : fndR (curF D f).1 with
    | none =>
      rw [hfd] at hv hnew
      have hv : v6 = .tup [.nils, .int .i64 0, .bool false] := hv
      subst hv
      refine tupW_of rfl ?_
      refine tpI_of rfl ?_
      refine tpB_of rfl ?_
      refine iW_of (by omega) ?_
      exact again ⟨i + 1, ⟨by omega, by omega, hnew, ((s4.trans s45).trans s56).bump _⟩, by omega⟩
    | some p =>
      obtain ⟨ow, e⟩ := p
      rw [hfd] at hv hnew
      obtain ⟨hv, hw, hwb⟩ : v6 = .tup [w, .int .i64 (e : Nat), .bool true] ∧ SL σ6 w ow ∧ ∀ b ∈ blkOf w, (σ5.bump 11).next ≤ b ∧ b < σ6.next := hv
      simp only [Mem.next_bump] at hwb
      subst hv
      refine tupW_of rfl ?_
      refine tpI_of rfl ?_
      refine tpB_of rfl ?_
      refine ifI (fun _ => ?_) (fun h => by cases h)
      refine To.go ?_
      refine st1 (σ := σ6.bump 10) g6 (by simp [logC]) rfl ?_
      obtain ⟨σ7, e7⟩ : ∃ σ7, σ7 = (σ6.bump 10).put l (some (.rw ((logC b 0 false false).set 1 (.int .i64 f)))) := ⟨_, rfl⟩
      rw [← e7]
      have g7 : σ7.get l = some (.rw (logC b f false false)) := by rw [e7, gS']; rfl
      have s07 : σ.Same σ7 := by rw [e7]; exact (s06.bump _).put (by omega) _
      have n7 : σ7.next = σ6.next + 10 := by rw [e7]; rfl
      have k7 : ∀ c, c ≠ l → σ7.get c = σ6.get c := fun c hc => by rw [e7, Mem.get_put_ne _ hc]; rfl
      clear e7
      refine To.go ?_
      refine st1 (σ := σ7) g7 (by simp [logC]) rfl ?_
      refine ⟨⟨l, w, by omega, by simp only [Mem.next_bump, Mem.next_put]; omega, ?_⟩, (s07.put (by omega) _).bump _⟩
      rw [hnew]
      refine ⟨rfl, ?_, ?_, fun c hc => ?_⟩
      · show (σ7.put l _).get l = _
        rw [gS']; rfl
      · refine hw.keep fun c hc => ?_
        have := hwb c hc
        show (σ7.put l _).get c = _
        rw [Mem.get_put_ne _ (by omega)]
        exact k7 c (by omega)
      · have := hwb c hc
        simp only [Mem.next_bump, Mem.next_put]
        omega
  · have e : i = R.length := by omega
    rw [e, List.drop_length] at hnew
    rw [hnew]
    exact ⟨⟨l, .nils, by omega, by simp only [Mem.next_bump]; omega, rfl, g4⟩, s04.bump _⟩
end Go.Vit
