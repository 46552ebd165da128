/- A disk: Files, Crash. -/
import Derived.Test.YtojgemdgadfncaaV8J
set_option linter.unusedVariables false
set_option linter.unusedSimpArgs false
set_option linter.unusedSimpArgs false
set_option maxRecDepth 20000
namespace Go.Vit
open Go.Proofs
theorem srt2_comm {X Y : List Int} (h : X.Perm Y) (hn : Y.Nodup) (hl : Y.length ≤ 2) : srt2 X = srt2 Y := by
  match Y, hn, hl with
  | [], _, _ => rw [h.eq_nil]
  | [y], _, _ => rw [List.perm_singleton.1 h]
  | [x, y], hn, _ =>
    have hne : x ≠ y := by simpa using hn
    by_cases hlt : x < y
    · rw [srt2_perm h hlt, srt2_ge (by omega)]
    · rw [srt2_perm (h.trans (List.Perm.swap y x [])) (by omega), srt2_lt (by omega)]
def numbs (D : Ds) : List Int := srt2 (D.fs.map (·.1))
theorem disk_Files {σ : Mem} {b m : Nat} {D : Ds} (h : Dsk σ b m D) (hl : D.fs.length ≤ 2) : ACalls PG n_disk_Disk_Files [.ptr b 0] σ fun v σ' => Own 1 σ σ' v (ic (numbs D)) D.fs.length ∧ σ.Same σ' := by
  refine ok_disk_Disk_Files fun live => ?_
  unfold F_disk_Disk_Files
  obtain ⟨hbl, hml⟩ := h.lt live
  have g := h.gb
  unfold Ds.cells at g
  have ok := h.ok
  refine To.go ?_
  refine ifF (p := False) id ?_
  refine To.go ?_
  refine ldrw (σ := σ.bump 10) g (v := .map m) rfl ?_
  refine callW_of (Q := fun v σ' => ∃ c, v = .func n_maps_Keys_map_int_disk_file_int_disk_file__1 [.ptr c 0] ∧ σ'.get c = some (.rw [.map m]) ∧ σ.next ≤ c ∧ c < σ'.next ∧ σ.Same σ') ?_ ?_
  · refine ok_maps_Keys_map_int_disk_file_int_disk_file_ fun _ => ?_
    unfold F_maps_Keys_map_int_disk_file_int_disk_file_
    refine boxW_map ?_
    refine To.go ?_
    exact ⟨_, rfl, gB gS', by simp only [Mem.next_bump]; omega, by simp only [Mem.next_put, Mem.next_bump]; omega, Mem.Same.bump (Mem.Same.put (((Mem.Same.refl σ).bump _).bump _) (by simp only [Mem.next_bump]; omega) _) _⟩
  · rintro _ σ1 ⟨c, rfl, hc, hc1, hc2, s1⟩
    have n1 := s1.next
    refine callW_of (Q := fun v σ' => Own 1 σ σ' v (ic (numbs D)) D.fs.length ∧ σ.Same σ') ?_ ?_
    · refine ok_slices_Sorted_int_ fun _ => ?_
      unfold F_slices_Sorted_int_
      refine callW_of (Q := fun v σ' => ∃ T : List Ent, T.Perm D.fs ∧ Own 1 (σ1.bump 4) σ' v (ic (T.map (·.1))) T.length ∧ (σ1.bump 4).Same σ') ?_ ?_
      · refine ok_slices_Collect_int_ fun _ => ?_
        unfold F_slices_Collect_int_
        refine callW_of (AppendSeq_keys (σ := (σ1.bump 4).bump 4) (c := c) (m := m) (clock := D.clock) (fs := D.fs) hc ?_ ok.born ok.bnd (by omega)) ?_
        · show σ1.get m = _
          rw [s1.get m hml, ← encE_fs]; exact h.gm
        · rintro v σ2 ⟨T, hT, own, s2⟩
          refine ⟨T, hT, ⟨own.1, fun b hb => ?_⟩, s2.ob⟩
          have := own.2 b hb
          simp only [Mem.next_bump] at this ⊢
          omega
      · rintro v σ2 ⟨T, hT, own, s2⟩
        have hTl := hT.length_eq
        have own2 : Own 1 σ (σ2.bump 2) v (ic (T.map (·.1))) (T.map (·.1)).length := by
          rw [List.length_map]
          refine ⟨own.1.keep fun _ _ => rfl, fun b hb => ?_⟩
          have := own.2 b hb
          simp only [Mem.next_bump] at this ⊢
          omega
        have s02 : σ.Same (σ2.bump 2) := (s1.trans s2.ob).bump 2
        refine callW_of (slices_Sort own2 s02 (by rw [List.length_map]; omega)) ?_
        rintro _ σ3 ⟨own3, s3⟩
        have e : srt2 (T.map (·.1)) = numbs D := srt2_comm (hT.map _) ok.knd (by rw [List.length_map]; exact hl)
        rw [e, List.length_map, hTl] at own3
        exact ⟨own3.same ((Mem.Same.refl _).bump _), s3.bump _⟩
    · rintro v σ2 ⟨own, s2⟩
      exact ⟨own, s2⟩
def cutF (x : Fil) (k : Int) : Fil := (x.1.extract 0 (x.2 + ((if k < 0 then -1 - k else k) % (x.1.size - x.2 + 1 : Nat)).toNat), x.2 + ((if k < 0 then -1 - k else k) % (x.1.size - x.2 + 1 : Nat)).toNat)
def crash1 (s : Ds × List Int) (f : Int) : Ds × List Int := if (curF s.1 f).1.size = (curF s.1 f).2 then s else (putD s.1 f (cutF (curF s.1 f) (s.2.headD 0)), s.2.tail)
def crashD (D : Ds) (ks : List Int) : Ds := { ((numbs D).foldl crash1 (D, ks)).1 with dead := false, armed := 0 }
def KS (σ : Mem) (v : AV) (ks : List Int) : Prop := (∃ kb k, ks = [k] ∧ v = .slice kb 0 1 (.ex 1) ∧ σ.get kb = some (.rw [.int .i64 k])) ∨ (ks = [] ∧ (v = .nils ∨ ∃ b o c, v = .slice b o 0 c))
theorem KS.keep {σ σ' : Mem} {v : AV} {ks : List Int} (h : KS σ v ks) (hb : ∀ c ∈ blkOf v, σ'.get c = σ.get c) : KS σ' v ks := by
  rcases h with ⟨kb, k, h1, rfl, h3⟩ | h
  · exact .inl ⟨kb, k, h1, rfl, (hb kb (by simp [blkOf])).trans h3⟩
  · exact .inr h
theorem KS.lt {σ : Mem} {v : AV} {ks : List Int} (h : KS σ v ks) (live : σ.Live) : ks = [] ∨ ∀ c ∈ blkOf v, c < σ.next ∧ ∃ l, σ.get c = some (.rw l) := by
  rcases h with ⟨kb, k, h1, rfl, h3⟩ | ⟨h, _⟩
  · right
    intro c hc
    simp only [blkOf, List.mem_singleton] at hc
    subst hc; exact ⟨live.lt h3, _, h3⟩
  · exact .inl h
theorem cutF_ok {x : Fil} {k : Int} (h : x.2 ≤ x.1.size) : (cutF x k).2 ≤ x.1.size ∧ (cutF x k).1.size = (cutF x k).2 := by
  unfold cutF
  dsimp only
  have h1 := Int.emod_nonneg (if k < 0 then -1 - k else k) (show ((x.1.size - x.2 + 1 : Nat) : Int) ≠ 0 by omega)
  have h2 := Int.emod_lt_of_pos (if k < 0 then -1 - k else k) (show (0 : Int) < ((x.1.size - x.2 + 1 : Nat) : Int) by omega)
  obtain ⟨r, hr⟩ := int_nat h1
  rw [hr] at h2 ⊢
  rw [Int.toNat_natCast, ByteArray.size_extract]
  omega
theorem wK {σ : Mem} {b o : Nat} {l : List AV} {x : AV} {K : Mem → Prop} (hg : σ.get b = some (.rw l)) (ho : o < l.length) (h1 : x.one = true) (hk : K (σ.put b (some (.rw (l.set o x))))) : stW 1 σ (.ptr b o) x K := st1 hg ho h1 hk
theorem crash_one {σ : Mem} {b m tb : Nat} {D : Ds} {f : Int} {x : Fil} {k : Int} {K : AV → Mem → Prop} {u : AV} {σ7 : Mem} (h : Dsk σ b m D) (hbl : b < σ.next) (hml : m < σ.next) (htb : σ7.next + 10 = tb) (htl : tb < σ.next) (hnb : tb ≠ b ∧ tb ≠ m) (hg : σ.get tb = some (.rw [.str x.1, .int .i64 x.2])) (hx : curF D f = x) (hne : x.1.size ≠ x.2) (hk : -9223372036854775808 ≤ k ∧ k ≤ 9223372036854775807)
    (hK : ∀ σ', Dsk σ' b m (putD D f (cutF x k)) → Mem.Only [b, m, tb] σ σ' → K u σ') : F_disk_Disk_Crash_j2 (.ptr b 0) σ7 K f ((x.1.size : Int) - x.2) u k σ := by
  unfold F_disk_Disk_Crash_j2
  have ok := h.ok
  have hsyn : x.2 ≤ x.1.size := by rw [← hx]; exact cur_syn ok f
  have htot : x.1.size ≤ tot D.fs := by rw [← hx]; exact cur_tot f
  have hsum : tot D.fs ≤ 16777216 := ok.sum
  obtain ⟨q, hq⟩ : ∃ q : Int, (if k < 0 then -1 - k else k) = q := ⟨_, rfl⟩
  have hq0 : 0 ≤ q ∧ q ≤ 9223372036854775807 := by rw [← hq]; split <;> omega
  refine join1 (fun (z : Int) σ' => z = q ∧ σ.Same σ') ?_ ?_
  · refine ifD (fun h0 => ?_) (fun h0 => ?_)
    · refine iW_of (by omega) ?_
      exact ⟨by rw [← hq, if_pos h0], (Mem.Same.refl σ).bump _⟩
    · exact ⟨by rw [← hq, if_neg h0], (Mem.Same.refl σ).bump _⟩
  · rintro z σ1 ⟨hz, s1⟩
    rw [hz]
    unfold F_disk_Disk_Crash_j3
    rw [htb]
    have hc := cutF_ok (k := k) hsyn
    have hc2 : (cutF x k).2 = x.2 + (q % (x.1.size - x.2 + 1 : Nat)).toNat := by unfold cutF; dsimp only; rw [hq]
    have hc1 : (cutF x k).1 = x.1.extract 0 ((cutF x k).2) := by unfold cutF; rfl
    have h1 := Int.emod_nonneg q (show ((x.1.size - x.2 + 1 : Nat) : Int) ≠ 0 by omega)
    have h2 := Int.emod_lt_of_pos q (show (0 : Int) < ((x.1.size - x.2 + 1 : Nat) : Int) by omega)
    obtain ⟨r, hr⟩ := int_nat h1
    rw [hr] at h2 hc2
    rw [Int.toNat_natCast] at hc2
    obtain ⟨y, hy⟩ : ∃ y, cutF x k = y := ⟨_, rfl⟩
    rw [hy] at hc hc1 hc2 hK
    have g1 := (s1.get tb htl).trans hg
    have n1 := s1.next
    refine To.go ?_
    refine ldrw (σ := σ1.bump 9) (K := fun a => castI .i64 a _) g1 (v := .int .i64 x.2) rfl ?_
    refine To.go ?_
    refine iW_of (by omega) ?_
    refine And.intro (by omega) ?_
    rw [Int.tmod_eq_emod_of_nonneg hq0.1, show (x.1.size : Int) - x.2 + 1 = ((x.1.size - x.2 + 1 : Nat) : Int) from by omega, hr]
    refine iW_of (by omega) ?_
    rw [show (x.2 : Int) + (r : Nat) = ((y.2 : Nat) : Int) from by omega]
    refine To.go ?_
    refine wK g1 (show 1 < 2 by decide) rfl ?_
    obtain ⟨σ2, e2⟩ : ∃ σ2, σ2 = (σ1.bump 9).put tb (some (.rw ([AV.str x.1, .int .i64 x.2].set 1 (.int .i64 (y.2 : Nat))))) := ⟨_, rfl⟩
    rw [← e2]
    have g2 : σ2.get tb = some (.rw [.str x.1, .int .i64 (y.2 : Nat)]) := by rw [e2, gS']; rfl
    have o2 : Mem.Only [b, m, tb] σ σ2 := by rw [e2]; exact Mem.Only.put ((Only.of_same s1).bump _) (by simp) _
    have hD2 : Dsk σ2 b m D := by
      refine h.keep ?_ ?_
      · rw [e2, Mem.get_put_ne _ (fun e => hnb.1 e.symm)]; exact s1.get b hbl
      · rw [e2, Mem.get_put_ne _ (fun e => hnb.2 e.symm)]; exact s1.get m hml
    clear e2
    have gb := hD2.gb
    unfold Ds.cells at gb
    refine To.go ?_
    refine ldrw (σ := σ2.bump 14) gb (v := .map m) rfl ?_
    refine To.go ?_
    refine ldrw (σ := σ2.bump 14) (K := fun a => castS a _) g2 (v := .str x.1) rfl ?_
    refine To.go ?_
    refine To.go ?_
    refine ldrw (σ := σ2.bump 14) (K := fun a => castI .i64 a _) g2 (v := .int .i64 (y.2 : Nat)) rfl ?_
    refine To.go ?_
    refine And.intro (by omega) ?_
    rw [show Int.toNat 0 = 0 from rfl, Int.toNat_natCast, ← hc1]
    refine To.go ?_
    refine ldrw (σ := σ2.bump 14) (K := fun a => castI .i64 a _) g2 (v := .int .i64 (y.2 : Nat)) rfl ?_
    refine To.go ?_
    refine mup_fs (σ := σ2.bump 14) (x := y) hD2.gm ok.knd ?_
    have hsz : szF (getF D.fs f) = x.1.size := by
      have : szF (getF D.fs f) = (curF D f).1.size := rfl
      rw [this, hx]
    have hok : (putD D f y).ok := putD_ok ok (by omega) (by omega)
    refine hK _ ⟨?_, ?_, h.ne, hok⟩ (Mem.Only.put (o2.bump _) (by simp) _)
    · rw [Mem.get_put_ne _ h.ne]; exact hD2.gb
    · rw [gS']; rfl
end Go.Vit
