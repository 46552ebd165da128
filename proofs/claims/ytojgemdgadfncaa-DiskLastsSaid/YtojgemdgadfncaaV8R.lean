/- The law DiskLasts. -/
import Derived.Test.YtojgemdgadfncaaV8L
set_option linter.unusedVariables false
set_option linter.unusedSimpArgs false
set_option linter.unusedSimpArgs false
set_option maxRecDepth 20000
set_option maxRecDepth 20000
namespace Go.Vit
open Go.Proofs
theorem cells_arg {σ : Mem} {t e : TypeId} {ts : List TypeId} {l : List AV} (hu : PG.underlying t = some (.slice e)) (hc : PG.cellsOf e = 1) (hb : 1 ≤ PG.bytesOf e) (h : Wts PG σ (t :: ts) l) :
    ∃ a r cs, l = a :: r ∧ Wts PG σ ts r ∧ RdO 1 σ a cs cs.length ∧ cs.length ≤ 2 ^ 47 ∧ ∀ (i : Nat) (hi : i < cs.length), Wt PG σ e [cs[i]] := by
  obtain ⟨a, r, rfl, hr, hs⟩ := h.slice hu
  rcases hs with rfl | ⟨b, n, cs, rfl, hg, hn, hl, hw⟩
  · exact ⟨_, _, [], rfl, hr, .inl ⟨rfl, rfl, rfl⟩, by decide, fun i hi => absurd hi (by simp)⟩
  · rw [hc, Nat.mul_one] at hl
    refine ⟨_, _, cs, rfl, hr, RdO.mk (b := b) (c := .op 0) (by rw [hl]) ⟨_, hg, rfl⟩ (by omega), ?_, fun i hi => ?_⟩
    · have h1 : n * 1 ≤ n * PG.bytesOf e := Nat.mul_le_mul_left _ hb
      unfold reachBytes at hn
      omega
    · have := hw i (by omega)
      rw [hc, Nat.mul_one, List.drop_eq_getElem_cons hi] at this
      exact this
theorem RdO.ldv {σ σ' : Mem} {v : AV} {cs : List AV} (h : RdO 1 σ v cs cs.length) (hb : ∀ b ∈ blkOf v, σ'.get b = σ.get b) {i : Nat} (hi : i < cs.length) {x : Int} (hx : x = (i : Nat)) {s : AV} (hs : cs[i] = s) {K : AV → Prop} (hk : K s) : idxW 1 v x fun p => ldW σ' p K := by
  have h := h.keep hb
  rcases h with ⟨rfl, h1, h2⟩ | ⟨b, z, c, rfl, _, q, cells, hg, hq, hd, hz⟩
  · omega
  · refine ⟨by omega, ?_⟩
    refine ldq hg (v := s) ?_ hk
    rw [hq]
    have h5 : cs[i]? = some s := by rw [List.getElem?_eq_getElem hi, hs]
    rw [← hd, List.getElem?_take, if_pos (by omega), List.getElem?_drop] at h5
    rw [hx]
    simpa using h5
theorem RdO.lds {σ σ' : Mem} {v : AV} {cs : List AV} (h : RdO 1 σ v cs cs.length) (hb : ∀ b ∈ blkOf v, σ'.get b = σ.get b) {i : Nat} (hi : i < cs.length) {x : Int} (hx : x = (i : Nat)) {s : ByteArray} (hs : cs[i] = .str s) {K : ByteArray → Prop} (hk : K s) : idxW 1 v x fun p => ldS σ' p K :=
  h.ldv (K := fun a => castS a K) hb hi hx hs hk
theorem RdO.ldb {σ σ' : Mem} {v : AV} {cs : List AV} (h : RdO 1 σ v cs cs.length) (hb : ∀ b ∈ blkOf v, σ'.get b = σ.get b) {i : Nat} (hi : i < cs.length) {x : Int} (hx : x = (i : Nat)) {s : Bool} (hs : cs[i] = .bool s) {K : Bool → Prop} (hk : K s) : idxW 1 v x fun p => ldB σ' p K :=
  h.ldv (K := fun a => castB a K) hb hi hx hs hk
def oneD (S M : ByteArray) (st : Int) : Ds := ⟨[(3, (S ++ M, S.size), 0)], 1, 1048576, 0, false, st⟩
def nonD : Ds := ⟨[], 0, 1048576, 0, false, 0⟩
theorem app_one (S M s : ByteArray) (st : Int) : appD (oneD S M st) 3 s = oneD S (M ++ s) (st + 1) := by
  show (⟨[(3, ((S ++ M) ++ s, S.size), 0)], 1, 1048576, 0, false, st + 1⟩ : Ds) = _
  rw [ByteArray.append_assoc]; rfl
theorem app_non (s : ByteArray) : appD nonD 3 s = oneD ⟨#[]⟩ s 1 := by
  have e : (⟨#[]⟩ : ByteArray) ++ s = s := ByteArray.empty_append
  unfold oneD
  rw [e]
  show (⟨[(3, ((⟨#[]⟩ : ByteArray) ++ s, 0), 0)], 1, 1048576, 0, false, 1⟩ : Ds) = _
  rw [e]; rfl
theorem syn_one (S M : ByteArray) (st : Int) : synD (oneD S M st) 3 = oneD (S ++ M) ⟨#[]⟩ (st + 1) := by
  have e : (S ++ M) ++ (⟨#[]⟩ : ByteArray) = S ++ M := ByteArray.append_empty
  unfold oneD
  rw [e]; rfl
theorem crash_one' (S M : ByteArray) (st : Int) (k : Int) : ∃ r, r ≤ M.size ∧ crashD (oneD S M st) [k] = oneD (S ++ M.extract 0 r) ⟨#[]⟩ st := by
  have e : ∀ r, (S ++ M.extract 0 r) ++ (⟨#[]⟩ : ByteArray) = S ++ M.extract 0 r := fun r => ByteArray.append_empty
  have hn : numbs (oneD S M st) = [3] := rfl
  have hc : curF (oneD S M st) 3 = (S ++ M, S.size) := rfl
  unfold crashD
  rw [hn, List.foldl_cons, List.foldl_nil]
  unfold crash1
  rw [hc]
  dsimp only
  have hs := ByteArray.size_append (a := S) (b := M)
  by_cases h : (S ++ M).size = S.size
  · rw [if_pos h]
    have hM : M.size = 0 := by omega
    refine ⟨0, by omega, ?_⟩
    have e2 : M.extract 0 0 = (⟨#[]⟩ : ByteArray) := by
      apply ByteArray.size_eq_zero_iff.1; rw [ByteArray.size_extract]; omega
    have e3 : M = (⟨#[]⟩ : ByteArray) := ByteArray.size_eq_zero_iff.1 hM
    rw [e2, e3]
    unfold oneD
    have e4 : S ++ (⟨#[]⟩ : ByteArray) = S := ByteArray.append_empty
    rw [e4, e4]
  · rw [if_neg h]
    have h1 := cutF_ok (x := (S ++ M, S.size)) (k := k) (by show S.size ≤ (S ++ M).size; omega)
    obtain ⟨⟨T, n⟩, hT⟩ : ∃ y, cutF (S ++ M, S.size) k = y := ⟨_, rfl⟩
    have hT0 : T = (S ++ M).extract 0 n ∧ S.size ≤ n := by
      have : cutF (S ++ M, S.size) k = ((S ++ M).extract 0 (cutF (S ++ M, S.size) k).2, (cutF (S ++ M, S.size) k).2) := rfl
      rw [hT] at this
      have h2 : S.size ≤ (cutF (S ++ M, S.size) k).2 := by unfold cutF; exact Nat.le_add_right _ _
      rw [hT] at h2
      exact ⟨congrArg Prod.fst this, h2⟩
    rw [show ([k] : List Int).headD 0 = k from rfl, hT]
    rw [hT] at h1
    dsimp only at h1
    refine ⟨n - S.size, by omega, ?_⟩
    have e5 : T = S ++ M.extract 0 (n - S.size) := by
      rw [hT0.1, ByteArray.extract_append, show S.extract 0 n = S from by have h := ByteArray.extract_zero_max_size (a := S) (i := n); rwa [Nat.max_eq_left hT0.2] at h]
      rw [Nat.zero_sub]
    unfold oneD
    rw [e, ← e5, ← h1.2]; rfl
theorem crash_zero (S : ByteArray) (st : Int) : crashD (oneD S ⟨#[]⟩ st) [0] = oneD S ⟨#[]⟩ st := by
  obtain ⟨r, hr, h⟩ := crash_one' S ⟨#[]⟩ st 0
  have e : S ++ (⟨#[]⟩ : ByteArray).extract 0 r = S := by
    have : (⟨#[]⟩ : ByteArray).extract 0 r = (⟨#[]⟩ : ByteArray) := by
      apply ByteArray.size_eq_zero_iff.1; rw [ByteArray.size_extract]; show min r 0 - 0 = 0; omega
    rw [this]; exact ByteArray.append_empty
  rw [h, e]
def lastD (D : Ds) (S M : ByteArray) (i : Nat) : Prop := (D = nonD ∧ S = ⟨#[]⟩ ∧ M = ⟨#[]⟩) ∨ ∃ st : Int, D = oneD S M st ∧ 0 ≤ st ∧ st ≤ 2 * i
theorem last_wrong {D : Ds} {S M : ByteArray} {i : Nat} (h : lastD D S M i) : wrongD D 3 = 0 := by
  rcases h with ⟨rfl, _⟩ | ⟨st, rfl, _⟩ <;> rfl
theorem last_tot {D : Ds} {S M : ByteArray} {i : Nat} (h : lastD D S M i) : tot D.fs = S.size + M.size ∧ D.limit = 1048576 ∧ D.steps ≤ 2 * i ∧ D.fs.length ≤ 2 := by
  rcases h with ⟨rfl, rfl, rfl⟩ | ⟨st, rfl, h0, h1⟩
  · exact ⟨rfl, rfl, by show (0 : Int) ≤ _; omega, by decide⟩
  · refine ⟨?_, rfl, h1, by show 1 ≤ 2; decide⟩
    show (S ++ M).size + 0 = _
    rw [ByteArray.size_append]; rfl
theorem last_app {D : Ds} {S M s : ByteArray} {i : Nat} (h : lastD D S M i) : ∃ st : Int, appD D 3 s = oneD S (M ++ s) st ∧ 0 ≤ st ∧ st ≤ 2 * i + 1 := by
  rcases h with ⟨rfl, rfl, rfl⟩ | ⟨st, rfl, h0, h1⟩
  · refine ⟨1, ?_, by omega, by omega⟩
    have e : (⟨#[]⟩ : ByteArray) ++ s = s := ByteArray.empty_append
    rw [app_non, e]
  · exact ⟨st + 1, app_one S M s st, by omega, by omega⟩
theorem last_crash {D : Ds} {S M : ByteArray} {i : Nat} (k : Int) (h : lastD D S M i) : ∃ r, r ≤ M.size ∧ lastD (crashD D [k]) (S ++ M.extract 0 r) ⟨#[]⟩ i := by
  rcases h with ⟨rfl, rfl, rfl⟩ | ⟨st, rfl, h0, h1⟩
  · exact ⟨0, by omega, .inl ⟨rfl, by rfl, rfl⟩⟩
  · obtain ⟨r, hr, e⟩ := crash_one' S M st k
    exact ⟨r, hr, .inr ⟨st, e, h0, h1⟩⟩
theorem last_crash0 {D : Ds} {S : ByteArray} {i : Nat} (h : lastD D S ⟨#[]⟩ i) : crashD D [0] = D := by
  rcases h with ⟨rfl, rfl, _⟩ | ⟨st, rfl, h0, h1⟩
  · rfl
  · exact crash_zero S st
theorem last_read {D : Ds} {S M : ByteArray} {i : Nat} (h : lastD D S M i) : ((getF D.fs 3).getD (⟨#[]⟩, 0)).1 = S ++ M := by
  rcases h with ⟨rfl, rfl, rfl⟩ | ⟨st, rfl, h0, h1⟩
  · rfl
  · rfl
theorem law16_DiskLasts (σ : Mem) (l : List AV) (_ : σ.Ro) (hw : Wts PG σ Try.f3.params.toList l) : ACalls PG n_law16_DiskLasts l σ fun v _ => isTrue v := by
  rw [show Try.f3.params.toList = [22, 23, 3] from by rw [Try.params3]] at hw
  obtain ⟨a, _, ts, rfl, hw, ha, hal, hta⟩ := cells_arg (e := 9) (by kernel_rfl) (by kernel_rfl) (by decide +kernel) hw
  obtain ⟨c, _, bs, rfl, hw, hc, hcl, htc⟩ := cells_arg (e := 4) (by kernel_rfl) (by kernel_rfl) (by decide +kernel) hw
  obtain ⟨k, r, rfl, hk, hw⟩ := hw.int (k := .i64) (by kernel_rfl)
  obtain rfl := hw.nil_inv
  have hk := wf_i64 hk
  unfold inI64 at hk
  have hta : ∀ (i : Nat) (hi : i < ts.length), ∃ s, ts[i] = .str s ∧ s.size ≤ reachBytes := by
    intro i hi
    obtain ⟨s, h1, h2⟩ := (hta i hi).str_inv (by kernel_rfl)
    exact ⟨s, by simpa using h1, h2⟩
  have htc : ∀ (i : Nat) (hi : i < bs.length), ∃ s, bs[i] = .bool s := by
    intro i hi
    obtain ⟨s, h1⟩ := (htc i hi).bool_inv (by kernel_rfl)
    exact ⟨s, by simpa using h1⟩
  refine ok_law16_DiskLasts fun live => ?_
  have hla := ha.lt live
  have hlc := hc.lt live
  unfold F_law16_DiskLasts
  refine callW_of (disk_New_ok (n := 1048576) (by decide)) ?_
  rintro _ σ1 ⟨b, m, rfl, hb0, hb, hm0, hm, h, s1⟩
  have s01 := s1.ob
  simp only [Mem.next_bump] at hb0 hm0
  refine tupW_of rfl ?_
  refine tpI_of rfl ?_
  refine ifF (not_not_intro rfl) ?_
  refine To.go ?_
  refine ifF (p := False) id ?_
  refine join2 (fun (S M : ByteArray) σ' => ∃ D i, i ≤ 100 ∧ lastD D S M i ∧ Dsk σ' b m D ∧ S.size + M.size ≤ 1000 * i ∧ b < σ'.next ∧ m < σ'.next) ?_ ?_
  · refine loop3 (fun (i : Nat) (S M : ByteArray) (y : Int) σ' => y = i ∧ i ≤ 100 ∧ (∃ D, lastD D S M i ∧ Dsk σ' b m D) ∧ S.size + M.size ≤ 1000 * i ∧ b < σ'.next ∧ m < σ'.next ∧ Mem.Only [b, m] σ1 σ') (fun i => 100 - i) 0 ⟨rfl, by omega, ⟨nonD, .inl ⟨rfl, rfl, rfl⟩, h.keep rfl rfl⟩, by decide, by simp only [Mem.next_bump]; omega, by simp only [Mem.next_bump]; omega, (Mem.Only.refl _ _).bump _⟩ ?_
    rintro i S M _ σ2 ⟨rfl, hi, ⟨D, hD, h2⟩, hsz, hb2, hm2, o2⟩
    unfold F_law16_DiskLasts_l1
    have ba : ∀ k, ∀ d ∈ blkOf a, (σ2.bump k).get d = σ.get d := fun k d hd => by
      have := hla d hd
      have n1 := s01.next
      exact (o2.get d (by omega) (by simp; omega)).trans (s01.get d this)
    have bc : ∀ k, ∀ d ∈ blkOf c, (σ2.bump k).get d = σ.get d := fun k d hd => by
      have := hlc d hd
      have n1 := s01.next
      exact (o2.get d (by omega) (by simp; omega)).trans (s01.get d this)
    refine ha.len ?_
    have fin : (∃ D i, i ≤ 100 ∧ lastD D S M i ∧ Dsk (σ2.bump 8) b m D ∧ S.size + M.size ≤ 1000 * i ∧ b < (σ2.bump 8).next ∧ m < (σ2.bump 8).next) := ⟨D, i, hi, hD, h2.keep rfl rfl, hsz, by simp only [Mem.next_bump]; omega, by simp only [Mem.next_bump]; omega⟩
    refine ifD (fun hlt => ?_) (fun hge => fin)
    refine ifD (fun hlt2 => ?_) (fun hge => fin)
    have hit : i < ts.length := by omega
    obtain ⟨s, hs, hsb⟩ := hta i hit
    unfold reachBytes at hsb
    refine ha.lds (ba 14) hit rfl hs ?_
    refine ifD (fun hbig => ?_) (fun hsmall => ?_)
    · refine callW_of (law16_awake _) ?_
      rintro _ σ3 rfl
      exact rfl
    · refine ha.lds (ba 21) hit rfl hs ?_
      have hlt := last_tot hD
      have hok := h2.ok
      refine callW_of (disk_Append (σ := σ2.bump 21) (f := 3) (s := s) (h2.keep rfl rfl) (last_wrong hD) (by omega) (by rw [hlt.1, hlt.2.1]; omega) (by omega)) ?_
      rintro _ σ3 ⟨rfl, h3, o3⟩
      have n3 := o3.next
      simp only [Mem.next_bump] at n3
      obtain ⟨st, e3, hst0, hst1⟩ := last_app (s := s) hD
      rw [e3] at h3 ⊢
      refine To.go ?_
      refine ifF (not_not_intro rfl) ?_
      have ba3 : ∀ k, ∀ d ∈ blkOf a, (σ3.bump k).get d = σ.get d := fun k d hd => by
        have := hla d hd
        have n1 := s01.next
        have n2 := o2.next
        exact (o3.get d (by simp only [Mem.next_bump]; omega) (by simp; omega)).trans (ba 21 d hd)
      have bc3 : ∀ k, ∀ d ∈ blkOf c, (σ3.bump k).get d = σ.get d := fun k d hd => by
        have := hlc d hd
        have n1 := s01.next
        have n2 := o2.next
        exact (o3.get d (by simp only [Mem.next_bump]; omega) (by simp; omega)).trans (bc 21 d hd)
      have o23 : Mem.Only [b, m] σ1 σ3 := Only.then o2 (show Mem.Only [b, m] σ2 σ3 from ⟨by omega, fun c hc hn => o3.get c (by simp only [Mem.next_bump]; omega) hn⟩) (fun _ h => h) (fun _ h => h)
      refine ha.lds (ba3 7) hit rfl hs ?_
      have hMs := ByteArray.size_append (a := M) (b := s)
      refine And.intro (by omega) ?_
      refine hc.len ?_
      have go : ∀ (S' M' : ByteArray) (st' : Int) (σ' : Mem), Dsk σ' b m (oneD S' M' st') → 0 ≤ st' → st' ≤ 2 * i + 2 → S'.size + M'.size ≤ 1000 * (i + 1) → σ3.next ≤ σ'.next → Mem.Only [b, m] σ1 σ' → 
          Again (∃ j : Nat, ((i : Int) + 1 = j ∧ j ≤ 100 ∧ (∃ D, lastD D S' M' j ∧ Dsk (σ'.bump 3) b m D) ∧ S'.size + M'.size ≤ 1000 * j ∧ b < (σ'.bump 3).next ∧ m < (σ'.bump 3).next ∧ Mem.Only [b, m] σ1 (σ'.bump 3)) ∧ 100 - j < 100 - i) := by
        intro S' M' st' σ' hD' h0 h1 hs' hn' ho'
        exact again ⟨i + 1, ⟨by omega, by omega, ⟨_, .inr ⟨st', rfl, h0, by omega⟩, hD'.keep rfl rfl⟩, hs', by simp only [Mem.next_bump]; omega, by simp only [Mem.next_bump]; omega, ho'.bump _⟩, by omega⟩
      refine ifD (fun hib => ?_) (fun hib => ?_)
      · have hic : i < bs.length := by omega
        obtain ⟨q, hq⟩ := htc i hic
        refine hc.ldb (bc3 17) hic rfl hq ?_
        refine joinI ?_
        refine ifI (fun hqt => ?_) (fun hqf => ?_)
        · refine callW_of (disk_Sync (σ := σ3.bump 20) (D := oneD S (M ++ s) st) (f := 3) (h3.keep rfl rfl) rfl (by show st < _; omega)) ?_
          rintro _ σ4 ⟨rfl, h4, o4⟩
          rw [syn_one] at h4
          have n4 := o4.next
          simp only [Mem.next_bump] at n4
          refine To.go ?_
          refine ifF (not_not_intro rfl) ?_
          refine And.intro (by omega) ?_
          unfold F_law16_DiskLasts_j2
          refine iW_of (by omega) ?_
          refine go _ _ (st + 1) (σ4.bump 5) (h4.keep rfl rfl) (by omega) (by omega) ?_ (by simp only [Mem.next_bump]; omega) ?_
          · rw [ByteArray.size_append, hMs]
            show S.size + (M.size + s.size) + 0 ≤ _
            omega
          · refine (Only.then o23 (show Mem.Only [b, m] σ3 σ4 from ⟨by omega, fun c hc hn => o4.get c (by simp only [Mem.next_bump]; omega) hn⟩) (fun _ h => h) (fun _ h => h)).bump _
        · unfold F_law16_DiskLasts_j2
          refine iW_of (by omega) ?_
          exact go _ _ st (σ3.bump 17) (h3.keep rfl rfl) (by omega) (by omega) (by omega) (by simp only [Mem.next_bump]; omega) (o23.bump _)
      · refine joinI ?_
        unfold F_law16_DiskLasts_j3
        refine iW_of (by omega) ?_
        exact go _ _ st (σ3.bump 17) (h3.keep rfl rfl) (by omega) (by omega) (by omega) (by simp only [Mem.next_bump]; omega) (o23.bump _)
  · rintro S M σ2 ⟨D, i, hi, hD, h2, hsz, hb2, hm2⟩
    unfold F_law16_DiskLasts_j1
    have hlt := last_tot hD
    refine To.go ?_
    obtain ⟨kb, hkb⟩ : ∃ kb, σ2.next + 2 = kb := ⟨_, rfl⟩
    rw [hkb]
    have h2' : Dsk ((σ2.bump 4).put kb (some (.rw [.int .i64 k]))) b m D := h2.keep (Mem.get_put_ne _ (by omega) _) (Mem.get_put_ne _ (by omega) _)
    refine callW_of (disk_Crash (ks := [k]) h2' hlt.2.2.2 (.inl ⟨kb, k, rfl, rfl, gS'⟩) (by intro x hx; rw [List.mem_singleton.1 hx]; exact hk) (fun c hc => by simp only [blkOf, List.mem_singleton] at hc; omega)) ?_
    rintro _ σ3 ⟨h3, o3⟩
    have n3 := o3.next
    simp only [Mem.next_put, Mem.next_bump] at n3
    obtain ⟨r, hr, hD3⟩ := last_crash k hD
    obtain ⟨D3, hD3e⟩ : ∃ D3, crashD D [k] = D3 := ⟨_, rfl⟩
    rw [hD3e] at h3 hD3
    refine callW_of (disk_Read (σ := σ3.bump 7) (f := 3) (h3.keep rfl rfl) (last_wrong hD3)) ?_
    rintro _ σ4 ⟨rfl, s4⟩
    have s34 := s4.ob
    have n4 := s34.next
    have h4 := h3.same s34 (by omega) (by omega)
    rw [last_read hD3]
    have e0 : (S ++ M.extract 0 r) ++ (⟨#[]⟩ : ByteArray) = S ++ M.extract 0 r := ByteArray.append_empty
    rw [e0]
    have hsz1 := ByteArray.size_append (a := S) (b := M.extract 0 r)
    have hsz2 : (M.extract 0 r).size = r := by rw [ByteArray.size_extract]; omega
    obtain ⟨T, hT⟩ : ∃ T, S ++ M.extract 0 r = T := ⟨_, rfl⟩
    have ex1 : T.extract 0 S.size = S := by rw [← hT, ByteArray.extract_append_size_left, ByteArray.extract_zero_size]
    have ex2 : T.extract S.size T.size = M.extract 0 (T.size - S.size) := by
      rw [← hT, ByteArray.extract_append_eq_right rfl (by omega), hsz1, hsz2, Nat.add_sub_cancel_left]
    rw [hT] at hD3 hsz1 ⊢
    refine tpS_of rfl ?_
    refine tpI_of rfl ?_
    refine ifF (not_not_intro rfl) ?_
    refine ifF (by omega) ?_
    refine iW_of (by omega) ?_
    refine ifF (by omega) ?_
    refine And.intro (by omega) ?_
    rw [show ((0 : Int).toNat) = 0 from rfl, Int.toNat_natCast, ex1]
    refine ifF (not_not_intro rfl) ?_
    refine And.intro (by omega) ?_
    rw [Int.toNat_natCast, Int.toNat_natCast, ex2]
    refine iW_of (by omega) ?_
    refine And.intro (by omega) ?_
    rw [show ((T.size : Int) - S.size).toNat = T.size - S.size from by omega, show ((0 : Int).toNat) = 0 from rfl]
    refine ifF (not_not_intro rfl) ?_
    refine To.go ?_
    obtain ⟨kc, hkc⟩ : ∃ kc, σ4.next + 42 = kc := ⟨_, rfl⟩
    rw [hkc]
    have h4' : Dsk ((σ4.bump 44).put kc (some (.rw [.int .i64 0]))) b m D3 := h4.keep (Mem.get_put_ne _ (by omega) _) (Mem.get_put_ne _ (by omega) _)
    have hlt3 := last_tot hD3
    refine callW_of (disk_Crash (ks := [0]) h4' hlt3.2.2.2 (.inl ⟨kc, 0, rfl, rfl, gS'⟩) (by decide) (fun c hc => by simp only [blkOf, List.mem_singleton] at hc; omega)) ?_
    rintro _ σ5 ⟨h5, o5⟩
    rw [last_crash0 hD3] at h5
    refine callW_of (disk_Read (σ := σ5.bump 7) (f := 3) (h5.keep rfl rfl) (last_wrong hD3)) ?_
    rintro _ σ6 ⟨rfl, s6⟩
    rw [last_read hD3, show T ++ (⟨#[]⟩ : ByteArray) = T from ByteArray.append_empty]
    refine tpS_of rfl ?_
    refine tpI_of rfl ?_
    refine ifT rfl ?_
    refine ifT rfl ?_
    refine callW_of (law16_awake _) ?_
    rintro _ σ7 rfl
    exact rfl
end Go.Vit
