/- The law SeglogFrames. -/
import Derived.Test.YtgdaiahnceaieaaV9La
import Derived.Test.YtgdaiahnceaieaaV9A0
import Derived.Test.YtgdaiahnceaieaaVm3
import Derived.Test.YtgdaiahnceaieaaVm4
set_option linter.unusedVariables false
set_option linter.unusedSimpArgs false
set_option linter.unusedSimpArgs false
set_option maxRecDepth 20000
set_option maxRecDepth 100000
namespace Go.Vit
open Go.Proofs
theorem opn_nil {b l : Nat} {w : AV} {D D' : Ds} {σ σ' : Mem} (h : D.fs = []) (o : opnV b l w D D' σ σ') : w = .nils ∧ σ'.get l = some (.rw (logC b 0 false false)) ∧ Calm D' ∧ D'.limit = D.limit ∧ D'.steps ≤ D.steps + 20 ∧ D'.fs = [] := by
  unfold opnV at o
  rw [newO_nil h] at o
  obtain ⟨h1, h2, h3⟩ := o
  exact ⟨h1, h2, h3.1, h3.2.1, h3.2.2.1, by have := h3.2.2.2; rw [if_neg (by simp)] at this; exact this⟩
theorem opn_some {b l : Nat} {w : AV} {D D' : Ds} {σ σ' : Mem} {f : Int} {x : Fil} {c e : Nat} {own : List ByteArray} (h : D.fs = [(f, x, c)]) (hf : fndR x.1 = some (own, e)) (o : opnV b l w D D' σ σ') :
    SL σ' w own ∧ (∀ c ∈ blkOf w, c ≠ l ∧ σ.next ≤ c ∧ c < σ'.next) ∧ σ'.get l = some (.rw (logC b f true false)) ∧ Calm D' ∧ D'.limit = D.limit ∧ D'.steps ≤ D.steps + 20 ∧ ∃ c, D'.fs = [(f, (x.1.extract 0 e, (x.1.extract 0 e).size), c)] := by
  unfold opnV at o
  rw [newO_one h, hf] at o
  obtain ⟨h1, h2, h3, h4⟩ := o
  rw [cur_one h] at h4
  exact ⟨h1, h2, h3, h4.1, h4.2.1, h4.2.2.1, by have := h4.2.2.2; rw [if_pos rfl] at this; exact this⟩
theorem rng_nil {D : Ds} (h : D.fs = []) : rngD D := by intro e he; rw [h] at he; cases he
theorem rng_one {D : Ds} {f : Int} {x : Fil} {c : Nat} (h : D.fs = [(f, x, c)]) (hf : 0 ≤ f ∧ f < 65536) : rngD D := by
  intro e he; rw [h] at he
  obtain rfl := List.mem_singleton.1 he
  exact hf
def firstS : ByteArray := ⟨#[102, 105, 114, 115, 116]⟩
theorem law17_SeglogFrames (σ : Mem) (l : List AV) (_ : σ.Ro) (hw : Wts PG σ Try.f4.params.toList l) : ACalls PG n_law17_SeglogFrames l σ fun v _ => isTrue v := by
  rw [Try.params4] at hw
  obtain ⟨s, r, rfl, hs, hw⟩ := hw.str (by kernel_rfl)
  obtain ⟨at', r, rfl, hat, hw⟩ := hw.int (k := .i64) (by kernel_rfl)
  obtain rfl := hw.nil_inv
  refine ok_law17_SeglogFrames fun live => ?_
  unfold F_law17_SeglogFrames
  refine ifD (fun h1 => ?_) (fun h1 => ?_)
  · refine callW_of (law17_awake _) ?_
    rintro _ σ1 ⟨rfl, _⟩
    exact rfl
  refine ifD (fun h2 => ?_) (fun h2 => ?_)
  · refine callW_of (law17_awake _) ?_
    rintro _ σ1 ⟨rfl, _⟩
    exact rfl
  refine callW_of (disk_New_ok (n := 10000) (by decide) (σ := σ.bump 15)) ?_
  rintro _ σ1 ⟨b, m, rfl, hb1, hb2, hm1, hm2, hD, s1⟩
  refine tupW_of rfl ?_
  refine tpI_of rfl ?_
  refine callW_of (seglog_Open (σ := σ1.bump 9) (hD.keep rfl rfl) ⟨rfl, rfl⟩ (by decide) (rng_nil rfl) (by decide)) ?_
  rintro _ σ2 ⟨l, w, D2, rfl, hl1, hl2, hD2, o2, op2⟩
  simp only [Mem.next_bump] at hl1
  obtain ⟨rfl, g2, c2, hlim2, hst2, hfs2⟩ := opn_nil rfl op2
  dsimp only at hlim2 hst2
  refine tupW_of rfl ?_
  refine tupW_of rfl ?_
  refine tpI_of rfl ?_
  refine ifF (by decide) ?_
  refine ifF (by decide) ?_
  refine To.go ?_
  refine ifF (p := False) id ?_
  refine To.go ?_
  rw [show (⟨#[102, 105, 114, 115, 116]⟩ : ByteArray) = firstS from rfl]
  have hfs1 : fsz [firstS] = 13 := rfl
  have hb2' : b < σ2.next := by have := o2.next; simp only [Mem.next_bump] at this; omega
  have hm2' : m < σ2.next := by have := o2.next; simp only [Mem.next_bump] at this; omega
  obtain ⟨σ3, e3⟩ : ∃ σ3, σ3 = (σ2.bump 31).put (σ2.next + 12) (some (.rw [.str firstS])) := ⟨_, rfl⟩
  rw [← e3]
  have g3 : σ3.get (σ2.next + 12) = some (.rw [.str firstS]) := by rw [e3, gS']
  have s23 : σ2.Same σ3 := by rw [e3]; exact ((Mem.Same.refl σ2).bump _).put (by omega) _
  have n3 : σ3.next = σ2.next + 31 := by rw [e3]; rfl
  clear e3
  have hlb : l ≠ b ∧ l ≠ m := by omega
  refine callW_of (seglog_Append (σ := σ3) (L := [firstS]) (hD2.same s23 hb2' hm2') c2.dead ((s23.get l hl2).trans g2) hlb (SL.one g3) (by rw [hfs1]; decide) (by decide) (by simp) (by decide) ?_ (by omega)) ?_
  · have h1 := datL_size false [firstS]
    rw [hfs2, hlim2]
    show ¬ (10000 : Int) < ((0 + (datL false [firstS]).size : Nat) : Int)
    omega
  rintro _ σ4 ⟨rfl, hD4, g4, o4⟩
  have hsd : (stepD D2).dead = false := by rw [step_calm c2]; exact c2.dead
  rw [hsd] at g4
  rw [deadE_calm c2]
  have n4 := o4.next
  refine To.go ?_
  refine ifF (by decide) ?_
  have hda : datL false [firstS] = frs crcOf (be4 0 :: [firstS]) := (frs_append crcOf [be4 0] [firstS]).symm
  have hfs4 := app_none (f := 0) (s := datL false [firstS]) hfs2
  have c4 := app_calm (f := 0) (s := datL false [firstS]) c2
  have hlim4 : (appD D2 0 (datL false [firstS])).limit = 10000 := hlim2
  have hst4 : (appD D2 0 (datL false [firstS])).steps ≤ 21 := by show D2.steps + 1 ≤ 21; omega
  obtain ⟨D4, hD4e⟩ : ∃ D4, appD D2 0 (datL false [firstS]) = D4 := ⟨_, rfl⟩
  rw [hD4e] at hD4 hfs4 c4 hlim4 hst4
  rw [hda] at hfs4
  obtain ⟨A, hA⟩ : ∃ A, frs crcOf (be4 0 :: [firstS]) = A := ⟨_, rfl⟩
  have hAs : A.size = 25 := by rw [← hA, frs_size]; rfl
  rw [hA] at hfs4
  refine To.go ?_
  obtain ⟨σ5, e5⟩ : ∃ σ5, σ5 = σ4.put (σ2.next + 19) (some (.rw [.str s])) := ⟨_, rfl⟩
  rw [← e5]
  have g5 : σ5.get (σ2.next + 19) = some (.rw [.str s]) := by rw [e5, gS']
  have k5 : ∀ c, c ≠ σ2.next + 19 → σ5.get c = σ4.get c := fun c hc => by rw [e5, Mem.get_put_ne _ hc]
  have n5 : σ5.next = σ4.next := by rw [e5]; rfl
  clear e5
  have hgs : bad s = false := by
    unfold bad
    rw [decide_eq_false (fun e => by rw [e] at h1; exact h1 (by decide)), decide_eq_false (by omega)]; rfl
  have hfss : fsz [s] = 8 + s.size := by unfold fsz; simp
  have hdt : datL true [s] = frs crcOf [s] := rfl
  have hdts : (frs crcOf [s]).size = 8 + s.size := by rw [frs_size, hfss]
  refine callW_of (seglog_Append (σ := σ5) (L := [s]) (hD4.keep (k5 b (by omega)) (k5 m (by omega))) c4.dead ((k5 l (by omega)).trans g4) hlb (SL.one g5) (by omega) (by simp [hgs]) (by simp) (by decide) ?_ (by omega)) ?_
  · show ¬ D4.limit < ((tot D4.fs + (frs crcOf [s]).size : Nat) : Int)
    rw [hlim4, hfs4, tot_one, hdts]
    dsimp only
    omega
  rintro _ σ6 ⟨rfl, hD6, g6, o6⟩
  rw [show (false || !false) = true from rfl, hdt] at hD6
  rw [deadE_calm c4]
  have hfs6 := app_one (s := frs crcOf [s]) hfs4
  have c6 := app_calm (f := 0) (s := frs crcOf [s]) c4
  have hst6 : (appD D4 0 (frs crcOf [s])).steps ≤ 22 := by show D4.steps + 1 ≤ 22; omega
  obtain ⟨D6, hD6e⟩ : ∃ D6, appD D4 0 (frs crcOf [s]) = D6 := ⟨_, rfl⟩
  rw [hD6e] at hD6 hfs6 c6 hst6
  dsimp only at hfs6
  have hB : A ++ frs crcOf [s] = frs crcOf (be4 0 :: [firstS, s]) := by rw [← hA]; exact (frs_append crcOf (be4 0 :: [firstS]) [s]).symm
  have hBs : (A ++ frs crcOf [s]).size = 33 + s.size := by rw [ByteArray.size_append, hAs, hdts]; omega
  obtain ⟨B, hBe⟩ : ∃ B, A ++ frs crcOf [s] = B := ⟨_, rfl⟩
  rw [hBe] at hfs6 hB hBs
  have n6 := o6.next
  refine To.go ?_
  refine ifF (by decide) ?_
  refine callW_of (disk_Size (σ := σ6) hD6) ?_
  rintro _ σ7 ⟨rfl, s7⟩
  have n7 := s7.next
  refine To.go ?_
  refine iW_of (by omega) ?_
  rw [hfs6, tot_one]
  refine ifF (by rw [hBs]; omega) ?_
  refine iW_of (by omega) ?_
  refine rem_any (b := 8 + (s.size : Int)) (by omega) ?_
  intro r hr1 hr2 _
  refine iW_of (by omega) ?_
  refine iW_of (by omega) ?_
  refine iW_of (by omega) ?_
  refine rem_any (b := 8 + (s.size : Int)) (by omega) ?_
  intro q hq1 hq2 hq3
  have hq : 0 ≤ q := by rw [hq3 (by omega)]; exact Int.emod_nonneg _ (by omega)
  refine iW_of (by omega) ?_
  obtain ⟨n, hn⟩ := int_nat (show 0 ≤ 25 + q by omega)
  rw [hn]
  have hD7 := hD6.same s7 (by omega) (by omega)
  have hcur6 : curF D6 0 = (B, 0) := cur_one hfs6
  refine callW_of (disk_Cut (σ := σ7.bump 19) (f := 0) (k := n) (hD7.keep rfl rfl) (wrong0 c6.dead (by decide)) (by omega) (by rw [hcur6, hBs]; omega)) ?_
  rintro _ σ8 ⟨rfl, hD8, o8⟩
  rw [deadE_calm c6]
  have n8 := o8.next
  simp only [Mem.next_bump] at n8
  have hcd : cutD D6 0 n = { D6 with steps := D6.steps + 1, fs := [(0, (B.extract 0 n, n), D2.clock)], clock := D6.clock } := by
    unfold cutD
    rw [chg_calm c6, hfs6, get_one, step_calm c6]
    dsimp only
    unfold putD
    dsimp only
    rw [hfs6, put_one, putC_one]
  have hfs8 : (cutD D6 0 n).fs = [(0, (B.extract 0 n, n), D2.clock)] := by rw [hcd]
  have c8 : Calm (cutD D6 0 n) := by rw [hcd]; exact ⟨c6.dead, c6.armed⟩
  have hst8 : (cutD D6 0 n).steps ≤ 23 := by rw [hcd]; dsimp only; omega
  obtain ⟨D8, hD8e⟩ : ∃ D8, cutD D6 0 n = D8 := ⟨_, rfl⟩
  rw [hD8e] at hD8 hfs8 c8 hst8
  clear hcd
  refine To.go ?_
  refine ifF (by decide) ?_
  have hB' : fndR (B.extract 0 n) = some ([firstS], 25) := by
    have hgd : ∀ x ∈ [firstS, s], goodR x := by
      intro x hx
      rcases List.mem_cons.1 hx with rfl | hx
      · exact ⟨by decide, by decide⟩
      · obtain rfl := List.mem_singleton.1 hx
        exact ⟨by omega, by omega⟩
    have hf2 : fsz [firstS, s] = 13 + (8 + s.size) := by rw [fsz_cons, hfss]; rfl
    rw [hB]
    rcases fnd_cut (c := 0) (L := [firstS, s]) (n := n) (by decide) hgd (by omega) with ⟨h, _⟩ | ⟨k, k1, k2, k3, k4⟩
    · omega
    · rw [if_pos (Nat.zero_le _)] at k4
      rw [k4]
      match k, k1, k2, k3 with
      | 0, _, k2, k3 =>
        have := k3 (by simp)
        rw [show [firstS, s].take (0 + 1) = [firstS] from rfl, hfs1] at this
        omega
      | 1, _, _, _ => rw [show [firstS, s].take 1 = [firstS] from rfl, hfs1]
      | 2, _, k2, _ =>
        rw [show [firstS, s].take 2 = [firstS, s] from rfl, hf2] at k2
        omega
      | k + 3, k1, _, _ => simp at k1
  refine callW_of (seglog_Open (σ := σ8.bump 9) (hD8.keep rfl rfl) c8 (by rw [hfs8]; show 1 ≤ 12; decide) (rng_one hfs8 (by decide)) (by omega)) ?_
  rintro _ σ9 ⟨l2, w2, D9, rfl, hl3, hl4, hD9, o9, op9⟩
  obtain ⟨hw9, hwb, _, c9, _, _, cl, hfs9⟩ := opn_some hfs8 hB' op9
  have n9 := o9.next
  simp only [Mem.next_bump] at n9 hwb
  refine tupW_of rfl ?_
  refine tupW_of rfl ?_
  refine tpI_of rfl ?_
  refine ifT rfl ?_
  refine To.go ?_
  obtain ⟨σ10, e10⟩ : ∃ σ10, σ10 = (σ9.bump 16).put (σ9.next + 4) (some (.rw [.str firstS])) := ⟨_, rfl⟩
  rw [← e10]
  have g10 : σ10.get (σ9.next + 4) = some (.rw [.str firstS]) := by rw [e10, gS']
  have s910 : σ9.Same σ10 := by rw [e10]; exact ((Mem.Same.refl σ9).bump _).put (by omega) _
  clear e10
  refine callW_of (law17_texts (σ := σ10) (A := [firstS]) (B := [firstS]) (hw9.keep fun c hc => s910.get c (hwb c hc).2.2) (SL.one g10) (by decide)) ?_
  rintro _ σ11 ⟨rfl, s11⟩
  rw [show decide ([firstS] = [firstS]) = true from decide_eq_true rfl]
  refine To.go ?_
  refine ifI (fun _ => ?_) (fun h => by cases h)
  have s911 := s910.trans s11
  refine callW_of (disk_Size (σ := σ11) (hD9.same s911 (by omega) (by omega))) ?_
  rintro _ σ12 ⟨rfl, s12⟩
  refine To.go ?_
  have h25 : (B.extract 0 n).size = n := by rw [ByteArray.size_extract]; omega
  have h25' : tot D9.fs = 25 := by
    rw [hfs9, tot_one]
    dsimp only
    rw [ByteArray.size_extract, h25]; omega
  rw [h25']
  refine ifT rfl ?_
  refine callW_of (law17_awake _) ?_
  rintro _ σ13 ⟨rfl, _⟩
  exact rfl
end Go.Vit
