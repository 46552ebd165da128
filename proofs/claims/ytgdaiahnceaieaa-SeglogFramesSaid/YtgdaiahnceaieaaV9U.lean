/- A log's disk is tidied. -/
import Derived.Test.YtgdaiahnceaieaaV9T
set_option linter.unusedVariables false
set_option linter.unusedSimpArgs false
set_option linter.unusedSimpArgs false
set_option maxRecDepth 20000
namespace Go.Vit
open Go.Proofs
theorem lfW_of {σ : Mem} {b o off : Nat} {l : List AV} {v : AV} {K : AV → Prop} (h1 : σ.get b = some (.rw l)) (h2 : l[o + off]? = some v) (h : K v) : lfW off σ (.ptr b o) K := ldrw (σ := σ) h1 h2 h
theorem lfI_of {σ : Mem} {b o off : Nat} {l : List AV} {x : Int} {K : Int → Prop} (h1 : σ.get b = some (.rw l)) (h2 : l[o + off]? = some (.int .i64 x)) (h : K x) : lfI off σ (.ptr b o) K := ldrw (σ := σ) (K := fun a => castI .i64 a K) h1 h2 h
theorem lfB_of {σ : Mem} {b o off : Nat} {l : List AV} {x : Bool} {K : Bool → Prop} (h1 : σ.get b = some (.rw l)) (h2 : l[o + off]? = some (.bool x)) (h : K x) : lfB off σ (.ptr b o) K := ldrw (σ := σ) (K := fun a => castB a K) h1 h2 h
theorem Only.ob' {l : List Nat} {σ σ' : Mem} {n : Nat} (h : Mem.Only l (σ.bump n) σ') : Mem.Only l σ σ' :=
  ⟨by have := h.next; simp only [Mem.next_bump] at this; omega, fun b hb hn => h.get b (by simp only [Mem.next_bump]; omega) hn⟩
structure Calm (D : Ds) : Prop where
  dead : D.dead = false
  armed : D.armed = 0
theorem step_calm {D : Ds} (c : Calm D) : stepD D = { D with steps := D.steps + 1 } := by
  unfold stepD
  rw [c.armed]
  simp
theorem chg_calm {D : Ds} {f : Int} {E : Fil → Ds} (c : Calm D) : chgD D f E = match getF D.fs f with
    | none => { D with steps := D.steps + 1 }
    | some x => E x := by
  unfold chgD
  rw [step_calm c]
  dsimp only
  rw [c.dead, if_neg (by simp)]
  rfl
theorem drp_calm {D : Ds} {f : Int} (c : Calm D) : drpD D f = { D with steps := D.steps + 1, fs := delL D.fs f } := by
  unfold drpD
  rw [chg_calm c, step_calm c]
  cases h : getF D.fs f with
  | some x => rfl
  | none =>
    dsimp only
    have : delL D.fs f = D.fs := by
      refine delL_none fun e he hf => ?_
      unfold getF at h
      rw [Option.map_eq_none_iff, List.find?_eq_none] at h
      exact h e he (decide_eq_true hf)
    rw [this]
theorem deadE_calm {D : Ds} (c : Calm D) : deadE (stepD D) = 0 := by
  rw [step_calm c]; unfold deadE; dsimp only; rw [c.dead]; rfl
theorem get_one {f : Int} {x : Fil} {c : Nat} : getF [(f, x, c)] f = some x := by
  unfold getF
  rw [List.find?_cons_of_pos (by simp)]; rfl
theorem put_one {f : Int} {x y : Fil} {c c' : Nat} : putL [(f, x, c)] f y c' = [(f, y, c)] := by
  unfold putL
  have h : hasF [(f, x, c)] f = true := by unfold hasF; simp
  rw [if_pos h]
  show [chF f y (f, x, c)] = _
  unfold chF
  rw [if_pos rfl]
theorem putC_one {f : Int} {x : Fil} {c c' : Nat} : putC [(f, x, c)] f c' = c' := by
  unfold putC
  have h : hasF [(f, x, c)] f = true := by unfold hasF; simp
  rw [if_pos h]
def left (D : Ds) (begun : Bool) (f : Int) (l : List Int) : List Ent := D.fs.filter fun e => decide (e.1 ∉ l) || (begun && decide (e.1 = f))
theorem left_skip {D : Ds} {f : Int} {l : List Int} : left D true f (l ++ [f]) = left D true f l := by
  unfold left
  refine List.filter_congr fun e he => ?_
  by_cases h : e.1 = f
  · simp [h]
  · simp [h]
theorem left_drop {D : Ds} {begun : Bool} {f n : Int} {l : List Int} (h : ¬ (begun = true ∧ n = f)) : left D begun f (l ++ [n]) = delL (left D begun f l) n := by
  unfold left delL
  rw [List.filter_filter]
  refine List.filter_congr fun e he => ?_
  by_cases h1 : e.1 = n
  · have : ¬ (begun = true ∧ e.1 = f) := by rw [h1]; exact h
    cases begun with
    | true => simp only [true_and] at this; simp [h1, this]; intro h2; rw [← h1] at h2; exact this h2
    | false => simp [h1]
  · simp [h1]
theorem left_all {D : Ds} {f : Int} : left D false f (numbs D) = [] := by
  unfold left
  rw [List.filter_eq_nil_iff]
  intro e he
  have : e.1 ∈ numbs D := numbs_mem.2 (List.mem_map_of_mem (f := fun e : Ent => e.1) he)
  simp [this]
theorem left_one {D : Ds} {f : Int} {x : Fil} (hx : getF D.fs f = some x) (hn : (D.fs.map (·.1)).Nodup) : ∃ c, left D true f (numbs D) = [(f, x, c)] := by
  have e : left D true f (numbs D) = D.fs.filter fun e => decide (e.1 = f) := by
    unfold left
    refine List.filter_congr fun e he => ?_
    have : e.1 ∈ numbs D := numbs_mem.2 (List.mem_map_of_mem (f := fun e : Ent => e.1) he)
    simp [this]
  rw [e]
  clear e
  generalize D.fs = l at hx hn
  induction l with
  | nil => cases hx
  | cons e l ih =>
    rw [List.map_cons, List.nodup_cons] at hn
    by_cases he : e.1 = f
    · have h1 : getF (e :: l) f = some e.2.1 := by unfold getF; rw [List.find?_cons_of_pos (by simp [he])]; rfl
      rw [h1] at hx
      injection hx with hx
      refine ⟨e.2.2, ?_⟩
      rw [List.filter_cons_of_pos (by simp [he])]
      have h2 : l.filter (fun e => decide (e.1 = f)) = [] := by
        rw [List.filter_eq_nil_iff]
        intro y hy h3
        exact hn.1 (by rw [he, ← of_decide_eq_true h3]; exact List.mem_map_of_mem (f := fun e : Ent => e.1) hy)
      rw [h2, ← hx, ← he]
    · have h1 : getF (e :: l) f = getF l f := by unfold getF; rw [List.find?_cons_of_neg (by simp [he])]
      rw [h1] at hx
      obtain ⟨c, hc⟩ := ih hx hn.2
      exact ⟨c, by rw [List.filter_cons_of_neg (by simp [he])]; exact hc⟩
def TidyD (D D' : Ds) (begun : Bool) (f : Int) (s : ByteArray) : Prop :=
  Calm D' ∧ D'.limit = D.limit ∧ D'.steps ≤ D.steps + 20 ∧ (if begun = true then ∃ c, D'.fs = [(f, (s, s.size), c)] else D'.fs = [])
theorem seglog_tidy {σ : Mem} {b m l e : Nat} {D : Ds} {f : Int} {begun dead : Bool} (h : Dsk σ b m D) (c : Calm D) (hl : D.fs.length ≤ 12) (hr : rngD D) (hst : D.steps < 2 ^ 61) (hg : σ.get l = some (.rw (logC b f begun dead))) (hlb : l ≠ b ∧ l ≠ m)
    (hb : begun = true → (0 ≤ f ∧ f < 65536) ∧ (∃ x, getF D.fs f = some x) ∧ e ≤ (curF D f).1.size) :
    ACalls PG n_seglog_Log_tidy [.ptr l 0, .int .i64 (e : Nat)] σ fun v σ' => v = .int .i64 0 ∧ (∃ D', Dsk σ' b m D' ∧ TidyD D D' begun f ((curF D f).1.extract 0 e)) ∧ Mem.Only [b, m] σ σ' := by
  refine ok_seglog_Log_tidy fun live => ?_
  unfold F_seglog_Log_tidy
  obtain ⟨hbl, hml⟩ := h.lt live
  have hll := live.lt hg
  refine lfW_of (σ := σ.bump 8) hg rfl ?_
  refine callW_of (disk_Files (σ := σ.bump 8) (h.keep rfl rfl) hl) ?_
  rintro v σ1 ⟨own, s1⟩
  have s01 := s1.ob
  have n01 := s01.next
  have hvb := own.2
  simp only [Mem.next_bump] at hvb
  have hnl : (numbs D).length = D.fs.length := by unfold numbs; rw [srt_len, List.length_map]
  obtain ⟨L, hL⟩ : ∃ L, numbs D = L := ⟨_, rfl⟩
  rw [hL] at own hnl
  rw [← hnl] at own
  refine own.1.len ?_
  have hLm : ∀ n ∈ L, n ∈ D.fs.map (·.1) := fun n hn => numbs_mem.1 (by rw [hL]; exact hn)
  refine loop1 (g1 := tI) (fun (i : Nat) (x : Int) (σ' : Mem) => x = (i : Nat) ∧ i ≤ L.length ∧ (∃ D', Dsk σ' b m D' ∧ Calm D' ∧ D'.limit = D.limit ∧ D'.steps ≤ D.steps + i ∧ D'.fs = left D begun f (L.take i)) ∧ Mem.Only [b, m] σ1 σ') (fun i => L.length - i) 0
    ⟨rfl, by omega, ⟨D, h.same s01 hbl hml, c, rfl, by omega, ?_⟩, Mem.Only.refl _ _⟩ ?_
  · unfold left; rw [List.filter_eq_self.2]; intro e _; simp
  rintro i _ σ2 ⟨rfl, hi, ⟨D2, hD2, c2, hlim2, hst2, hfs2⟩, o2⟩
  unfold F_seglog_Log_tidy_l1
  have n2 := o2.next
  have g2 : σ2.get l = some (.rw (logC b f begun dead)) := by
    rw [o2.get l (by omega) (by simp; exact hlb), s01.get l hll]; exact hg
  refine ifD (fun hlt => ?_) (fun hge => ?_)
  · have hi' : i < L.length := by omega
    have htk : L.take (i + 1) = L.take i ++ [L[i]] := (List.take_append_getElem hi').symm
    obtain ⟨n, hn⟩ : ∃ n, L[i] = n := ⟨_, rfl⟩
    have hnm := hLm L[i] (List.getElem_mem hi')
    have hgd : gd L i = n := by rw [gd_eq hi']; exact hn
    rw [hn] at htk hnm
    have hnr : 0 ≤ n ∧ n < 65536 := by
      obtain ⟨e, he, rfl⟩ := List.mem_map.1 hnm
      exact hr e he
    refine join0 (fun σ' => (∃ D', Dsk σ' b m D' ∧ Calm D' ∧ D'.limit = D.limit ∧ D'.steps ≤ D.steps + (i + 1) ∧ D'.fs = left D begun f (L.take (i + 1))) ∧ Mem.Only [b, m] σ1 σ') ?_ ?_
    · obtain ⟨b2, rfl, hg2, _⟩ := own.1.sl (by omega)
      have hg22 : σ2.get b2 = some (.rw (ic L)) := by
        have h1 := hvb b2 (by simp [blkOf])
        rw [o2.get b2 (by omega) (by simp; omega)]; exact hg2
      refine rdC (σ := σ2.bump 4) (L := L) hg22 (i := i) hi' hi' rfl ?_
      rw [hgd]
      have hdrop : ACalls PG n_disk_Disk_Drop [.ptr b 0, .int .i64 n] (σ2.bump 23) fun v σ' => v = .int .i64 0 ∧ (¬ (begun = true ∧ n = f) → ∀ k, ((∃ D', Dsk (σ'.bump k) b m D' ∧ Calm D' ∧ D'.limit = D.limit ∧ D'.steps ≤ D.steps + (i + 1) ∧ D'.fs = left D begun f (L.take (i + 1))) ∧ Mem.Only [b, m] σ1 (σ'.bump k))) := by
        refine (disk_Drop (σ := σ2.bump 23) (f := n) (hD2.keep rfl rfl) (wrong0 c2.dead hnr) (by omega)).mono ?_
        rintro _ σ3 ⟨rfl, h3, o3⟩
        rw [deadE_calm c2]
        refine ⟨rfl, fun hnf k => ⟨⟨drpD D2 n, h3.keep rfl rfl, ?_⟩, (Only.then o2 (Only.ob' o3) (fun _ h => h) (fun _ h => h)).bump _⟩⟩
        rw [drp_calm c2]
        refine ⟨⟨c2.dead, c2.armed⟩, hlim2, by dsimp only; omega, ?_⟩
        dsimp only
        rw [htk, left_drop hnf, hfs2]
      refine lfB_of (σ := σ2.bump 16) g2 rfl ?_
      refine ifI (fun hbe => ?_) (fun hbe => ?_)
      · refine To.go ?_
        refine To.go ?_
        refine ldrw (σ := σ2.bump 16) (K := fun a => castI .i64 a _) g2 (v := .int .i64 f) rfl ?_
        refine To.go ?_
        refine ifD (fun hnf => ?_) (fun hnf => ?_)
        · refine ⟨⟨D2, hD2.keep rfl rfl, c2, hlim2, by omega, ?_⟩, o2.bump _⟩
          rw [htk, hnf, hbe, left_skip, hfs2, hbe]
        · refine lfW_of (σ := σ2.bump 23) g2 rfl ?_
          refine callW_of hdrop ?_
          rintro _ σ3 ⟨rfl, hk⟩
          refine To.go ?_
          refine ifF (by decide) ?_
          exact hk (fun h => hnf h.2) _
      · refine lfW_of (σ := σ2.bump 23) g2 rfl ?_
        refine callW_of hdrop ?_
        rintro _ σ3 ⟨rfl, hk⟩
        refine To.go ?_
        refine ifF (by decide) ?_
        exact hk (fun h => by rw [hbe] at h; cases h.1) _
    · rintro σ3 ⟨⟨D3, hD3, c3, hlim3, hst3, hfs3⟩, o3⟩
      unfold F_seglog_Log_tidy_j1
      refine iW_of (by omega) ?_
      exact again ⟨i + 1, ⟨by omega, by omega, ⟨D3, hD3.keep rfl rfl, c3, hlim3, hst3, hfs3⟩, o3.bump _⟩, by omega⟩
  · have e1 : i = L.length := by omega
    rw [e1, List.take_length, ← hL] at hfs2
    refine lfB_of (σ := σ2.bump 6) g2 rfl ?_
    cases begun with
    | false =>
      refine ifI (fun _ => ?_) (fun h => by cases h)
      refine ⟨rfl, ⟨D2, hD2.keep rfl rfl, c2, hlim2, by omega, ?_⟩, (Only.then (Only.of_same (l := [b, m]) s01) o2 (fun _ h => h) (fun _ h => h)).bump _⟩
      rw [if_neg (by simp), hfs2, left_all]
    | true =>
      refine ifI (fun h => by cases h) (fun _ => ?_)
      obtain ⟨hfr, ⟨x, hx⟩, he⟩ := hb rfl
      have hcur : curF D f = x := by unfold curF; rw [hx]; rfl
      rw [hcur] at he ⊢
      obtain ⟨cl, hcl⟩ := left_one hx h.ok.knd
      rw [hcl] at hfs2
      have hcur2 : curF D2 f = x := by unfold curF; rw [hfs2, get_one]; rfl
      refine lfW_of (σ := σ2.bump 20) g2 rfl ?_
      refine lfI_of (σ := σ2.bump 20) g2 rfl ?_
      refine callW_of (disk_Read (σ := σ2.bump 20) (f := f) (hD2.keep rfl rfl) (wrong0 c2.dead hfr)) ?_
      rintro _ σ3 ⟨rfl, s3⟩
      rw [show (getF D2.fs f).getD (⟨#[]⟩, 0) = curF D2 f from rfl, hcur2]
      have s23 := s3.ob
      have n3 := s23.next
      have hD3 := hD2.same s23 (by omega) (by omega)
      have g3 : σ3.get l = some (.rw (logC b f true dead)) := (s23.get l (by omega)).trans g2
      have o3 : Mem.Only [b, m] σ σ3 := Only.then (Only.of_same (l := [b, m]) s01) (Only.then (l := [b, m]) o2 (Only.of_same (l := [b, m]) s23) (fun _ h => h) (fun _ h => h)) (fun _ h => h) (fun _ h => h)
      refine tpS_of rfl ?_
      refine tpI_of rfl ?_
      refine ifI (fun _ => ?_) (fun h => by cases h)
      have hes : (x.1.extract 0 e).size = e := by rw [ByteArray.size_extract]; omega
      refine join1 (g1 := tI) (fun (y : Int) σ' => y = 0 ∧ (∃ D' k, Dsk σ' b m D' ∧ Calm D' ∧ D'.limit = D.limit ∧ D'.steps ≤ D.steps + 14 ∧ D'.fs = [(f, (x.1.extract 0 e, k), cl)]) ∧ Mem.Only [b, m] σ σ' ∧ σ'.get l = some (.rw (logC b f true dead))) ?_ ?_
      · refine ifD (fun hlt => ?_) (fun hge2 => ?_)
        · refine lfW_of (σ := σ3.bump 19) g3 rfl ?_
          refine lfI_of (σ := σ3.bump 19) g3 rfl ?_
          refine callW_of (disk_Cut (σ := σ3.bump 19) (f := f) (k := e) (hD3.keep rfl rfl) (wrong0 c2.dead hfr) (by omega) (by rw [hcur2]; exact he)) ?_
          rintro _ σ4 ⟨rfl, h4, o4⟩
          rw [deadE_calm c2]
          refine To.go ?_
          refine ⟨rfl, ⟨cutD D2 f e, e, h4, ?_⟩, Only.then o3 (Only.ob' o4) (fun _ h => h) (fun _ h => h), ?_⟩
          · unfold cutD
            rw [chg_calm c2, hfs2, get_one, step_calm c2]
            dsimp only
            unfold putD
            dsimp only
            rw [hfs2, put_one]
            exact ⟨⟨c2.dead, c2.armed⟩, hlim2, by omega, rfl⟩
          · rw [(Only.ob' o4).get l (by omega) (by simp; exact hlb)]; exact g3
        · refine ⟨rfl, ⟨D2, x.2, hD3.keep rfl rfl, c2, hlim2, by omega, ?_⟩, o3.bump _, g3⟩
          rw [hfs2]
          have hall : x.1.extract 0 e = x.1 := by
            rw [show e = x.1.size from by omega]; exact ByteArray.extract_zero_size
          rw [hall]
      · rintro y σ4 ⟨rfl, ⟨D4, k, hD4, c4, hlim4, hst4, hfs4⟩, o4, g4⟩
        unfold F_seglog_Log_tidy_j2
        refine ifF (by decide) ?_
        refine lfW_of (σ := σ4.bump 12) g4 rfl ?_
        refine lfI_of (σ := σ4.bump 12) g4 rfl ?_
        refine callW_of (disk_Sync (σ := σ4.bump 12) (f := f) (hD4.keep rfl rfl) (wrong0 c4.dead hfr) (by omega)) ?_
        rintro _ σ5 ⟨rfl, h5, o5⟩
        rw [deadE_calm c4]
        refine To.go ?_
        refine ⟨rfl, ⟨synD D4 f, h5, ?_⟩, Only.then o4 (Only.ob' o5) (fun _ h => h) (fun _ h => h)⟩
        unfold synD
        rw [chg_calm c4, hfs4, get_one, step_calm c4]
        dsimp only
        unfold putD
        dsimp only
        rw [hfs4, put_one]
        exact ⟨⟨c4.dead, c4.armed⟩, hlim4, by dsimp only; omega, by rw [if_pos rfl]; exact ⟨cl, rfl⟩⟩
end Go.Vit
