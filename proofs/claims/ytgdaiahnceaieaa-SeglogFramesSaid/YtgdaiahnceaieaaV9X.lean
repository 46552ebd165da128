/- A disk: Drop, Cut. -/
import Derived.Test.YtgdaiahnceaieaaV9M
set_option linter.unusedVariables false
set_option linter.unusedSimpArgs false
set_option linter.unusedSimpArgs false
set_option maxRecDepth 20000
namespace Go.Vit
open Go.Proofs
def delL (l : List Ent) (f : Int) : List Ent := l.filter fun e => decide (e.1 ≠ f)
def delD (D : Ds) (f : Int) : Ds := { D with fs := delL D.fs f }
theorem delL_none {l : List Ent} {f : Int} (h : ∀ e ∈ l, e.1 ≠ f) : delL l f = l := by
  unfold delL
  rw [List.filter_eq_self]
  intro e he
  exact decide_eq_true (h e he)
theorem idx_del {f : Int} : ∀ {l : List Ent}, (l.map (·.1)).Nodup → ∀ {i : Nat}, idx (fsE l) f = some i → (l.map entA).eraseIdx i = (delL l f).map entA
  | [], _, i, h => by cases h
  | e :: l, hn, i, h => by
    rw [List.map_cons, List.nodup_cons] at hn
    have h : (if e.1 = f then some 0 else (idx (fsE l) f).map (· + 1)) = some i := h
    by_cases he : e.1 = f
    · rw [if_pos he] at h
      cases h
      have hno : ∀ y ∈ l, y.1 ≠ f := fun y hy e2 => hn.1 (by rw [he, ← e2]; exact List.mem_map_of_mem (f := fun e : Ent => e.1) hy)
      have e1 : delL (e :: l) f = l := by
        have h0 : delL (e :: l) f = delL l f := by unfold delL; rw [List.filter_cons_of_neg (by simp [he])]
        rw [h0, delL_none hno]
      rw [e1]; rfl
    · rw [if_neg he, Option.map_eq_some_iff] at h
      obtain ⟨j, hj, rfl⟩ := h
      have ih := idx_del hn.2 hj
      have e1 : delL (e :: l) f = e :: delL l f := by unfold delL; rw [List.filter_cons_of_pos (by simp [he])]
      rw [e1, List.map_cons, List.map_cons, List.eraseIdx_cons_succ, ih]
theorem get_has {l : List Ent} {f : Int} {x : Fil} (h : getF l f = some x) : hasF l f = true := by
  obtain ⟨n, hn⟩ := get_mem h
  exact List.any_eq_true.2 ⟨_, hn, decide_eq_true rfl⟩
theorem mdel_fs {σ : Mem} {m c : Nat} {l : List Ent} {f : Int} {K : Mem → Prop} (h : σ.get m = some (.map (encE (fsE l)) c)) (hn : (l.map (·.1)).Nodup) (hh : hasF l f = true)
    (hk : K (σ.put m (some (.map (encE (fsE (delL l f))) c)))) : mdelW σ (.map m) (.int .i64 f) K := by
  refine opt h ?_
  refine opt (findK_enc f (fsE l)) ?_
  have hi := idx_fs (f := f) (x := (⟨#[]⟩, 0)) hn
  cases e : idx (fsE l) f with
  | none =>
    rw [e] at hi
    have hi : hasF l f = false := hi
    rw [hi] at hh; cases hh
  | some i =>
    show K (σ.put m (some (.map ((encE (fsE l)).eraseIdx i) c)))
    rw [encE_fs, idx_del hn e, ← encE_fs]
    exact hk
theorem tot_del (l : List Ent) (f : Int) : tot (delL l f) ≤ tot l := by
  induction l with
  | nil => exact Nat.le_refl _
  | cons e l ih =>
    have h1 : tot (e :: l) = e.2.1.1.size + tot l := by unfold tot; simp
    unfold delL at ih ⊢
    rw [List.filter_cons]
    split
    · have h2 : tot (e :: l.filter fun e => decide (e.1 ≠ f)) = e.2.1.1.size + tot (l.filter fun e => decide (e.1 ≠ f)) := by unfold tot; simp
      omega
    · omega
theorem delD_ok {D : Ds} {f : Int} (ok : D.ok) : (delD D f).ok := by
  have hsub : (delL D.fs f).Sublist D.fs := List.filter_sublist
  refine ⟨fun e he => ok.born e (hsub.subset he), ok.bnd.sublist (hsub.map _), ok.knd.sublist (hsub.map _), ok.arm, ok.stp, ok.lim, fun e he => ok.syn e (hsub.subset he), ?_⟩
  exact Nat.le_trans (tot_del D.fs f) ok.sum
def drpD (D : Ds) (f : Int) : Ds := chgD D f fun _ => delD (stepD D) f
def cutD (D : Ds) (f : Int) (k : Nat) : Ds := chgD D f fun x => putD (stepD D) f (x.1.extract 0 k, k)
theorem disk_Drop_1 {σ : Mem} {b m c1 c2 : Nat} {D : Ds} {f : Int} {x : Fil} (h : Dsk σ b m D) (h1 : σ.get c1 = some (.rw [.ptr b 0])) (h2 : σ.get c2 = some (.rw [.int .i64 f])) (hx : getF D.fs f = some x) :
    ACalls PG n_disk_Disk_Drop_1 [filA x, .ptr c1 0, .ptr c2 0] σ fun _ σ' => Dsk σ' b m (delD D f) ∧ Mem.Only [b, m] σ σ' := by
  refine ok_disk_Disk_Drop_1 fun live => ?_
  unfold F_disk_Disk_Drop_1
  obtain ⟨hbl, hml⟩ := h.lt live
  have hne := h.ne
  have ok := h.ok
  have l1 := live.lt h1
  have l2 := live.lt h2
  refine And.intro rfl ?_
  refine To.go ?_
  obtain ⟨tb, htb⟩ : ∃ tb, σ.next = tb := ⟨_, rfl⟩
  rw [htb]
  obtain ⟨σ1, e1⟩ : ∃ σ1, σ1 = (σ.bump 1).put tb (some (.rw (filA x).cells)) := ⟨_, rfl⟩
  rw [← e1]
  have s1 : σ.Same σ1 := by rw [e1]; exact Mem.Same.put ((Mem.Same.refl σ).bump _) (by omega) _
  clear e1
  have hD := h.same s1 hbl hml
  have gb := hD.gb
  unfold Ds.cells at gb
  refine ldrw (σ := σ1.bump 6) ((s1.get c1 l1).trans h1) (v := .ptr b 0) rfl ?_
  refine To.go ?_
  refine ldrw (σ := σ1.bump 6) gb (v := .map m) rfl ?_
  refine To.go ?_
  refine ldrw (σ := σ1.bump 6) (K := fun a => castI .i64 a _) ((s1.get c2 l2).trans h2) (v := .int .i64 f) rfl ?_
  refine To.go ?_
  refine mdel_fs (σ := σ1.bump 6) hD.gm ok.knd (get_has hx) ?_
  refine ⟨⟨?_, ?_, hne, delD_ok ok⟩, ?_⟩
  · rw [Mem.get_put_ne _ hne]; exact hD.gb
  · rw [gS']; rfl
  · exact Mem.Only.put ((Only.of_same s1).bump _) (by simp) _
theorem disk_Drop {σ : Mem} {b m : Nat} {D : Ds} {f : Int} (h : Dsk σ b m D) (hw : wrongD D f = 0) (hst : D.steps < 2 ^ 62) :
    ACalls PG n_disk_Disk_Drop [.ptr b 0, .int .i64 f] σ fun v σ' => v = .int .i64 (deadE (stepD D)) ∧ Dsk σ' b m (drpD D f) ∧ Mem.Only [b, m] σ σ' := by
  refine ok_disk_Disk_Drop fun live => ?_
  unfold F_disk_Disk_Drop
  obtain ⟨hbl, hml⟩ := h.lt live
  refine boxW_ptr ?_
  refine To.go ?_
  refine To.go ?_
  obtain ⟨c1, hc1⟩ : ∃ c1, σ.next = c1 := ⟨_, rfl⟩
  obtain ⟨c2, hc2⟩ : ∃ c2, σ.next + 1 = c2 := ⟨_, rfl⟩
  rw [hc2, hc1]
  obtain ⟨σ1, e1⟩ : ∃ σ1, σ1 = ((σ.bump 3).put c1 (some (.rw (AV.ptr b 0).cells))).put c2 (some (.rw [.int .i64 f])) := ⟨_, rfl⟩
  rw [← e1]
  have s1 : σ.Same σ1 := by rw [e1]; exact Mem.Same.put (Mem.Same.put ((Mem.Same.refl σ).bump _) (by omega) _) (by omega) _
  have n1 : σ1.next = σ.next + 3 := by rw [e1]; rfl
  have g2 : σ1.get c2 = some (.rw [.int .i64 f]) := by rw [e1, gS']
  have g1 : σ1.get c1 = some (.rw [.ptr b 0]) := by rw [e1]; exact gN (by omega) gS'
  clear e1
  refine ldrw (σ := σ1.bump 4) g1 (v := .ptr b 0) rfl ?_
  refine To.go ?_
  refine ldrw (σ := σ1.bump 4) (K := fun a => castI .i64 a _) g2 (v := .int .i64 f) rfl ?_
  refine To.go ?_
  have hD := h.same s1 hbl hml
  refine callW_of (disk_wrong (σ := σ1.bump 4) (hD.keep rfl rfl)) ?_
  rintro _ σ2 ⟨rfl, s2⟩
  rw [hw]
  have s12 := s2.ob
  have n12 := s12.next
  refine To.go ?_
  refine ifF (by decide) ?_
  have g12 := (s12.get c1 (by omega)).trans g1
  have g22 := (s12.get c2 (by omega)).trans g2
  refine ldrw (σ := σ2.bump 7) g12 (v := .ptr b 0) rfl ?_
  refine To.go ?_
  refine ldrw (σ := σ2.bump 7) (K := fun a => castI .i64 a _) g22 (v := .int .i64 f) rfl ?_
  refine To.go ?_
  have hD2 := hD.same s12 (by omega) (by omega)
  refine callW_of (disk_change (σ := σ2.bump 7) (C := [c1, c2]) (E := fun _ => delD (stepD D) f) (hD2.keep rfl rfl) hst ?_ ?_) ?_
  · intro c hc
    simp only [List.mem_cons, List.not_mem_nil, or_false] at hc
    simp only [Mem.next_bump]
    omega
  · intro σ' x hd hcc hx
    exact disk_Drop_1 hd ((hcc c1 (by simp)).trans g12) ((hcc c2 (by simp)).trans g22) hx
  · rintro _ σ3 ⟨rfl, h3, o3⟩
    refine To.go ?_
    exact ⟨rfl, h3, Only.then (Only.of_same (l := [b, m]) ((s1.trans s12).bump 7)) o3 (fun _ h => h) (fun _ h => h)⟩
theorem disk_Cut_1 {σ : Mem} {b m c1 c2 c3 k : Nat} {D : Ds} {f : Int} {x : Fil} (h : Dsk σ b m D) (h1 : σ.get c1 = some (.rw [.int .i64 k])) (h2 : σ.get c2 = some (.rw [.ptr b 0])) (h3 : σ.get c3 = some (.rw [.int .i64 f])) (hx : getF D.fs f = some x) (hk : k ≤ x.1.size) :
    ACalls PG n_disk_Disk_Cut_1 [filA x, .ptr c1 0, .ptr c2 0, .ptr c3 0] σ fun _ σ' => Dsk σ' b m (putD D f (x.1.extract 0 k, k)) ∧ Mem.Only [b, m] σ σ' := by
  refine ok_disk_Disk_Cut_1 fun live => ?_
  unfold F_disk_Disk_Cut_1
  obtain ⟨hbl, hml⟩ := h.lt live
  have hne := h.ne
  have ok := h.ok
  have l1 := live.lt h1
  have l2 := live.lt h2
  have l3 := live.lt h3
  refine And.intro rfl ?_
  refine To.go ?_
  obtain ⟨tb, htb⟩ : ∃ tb, σ.next = tb := ⟨_, rfl⟩
  rw [htb]
  obtain ⟨σ1, e1⟩ : ∃ σ1, σ1 = (σ.bump 1).put tb (some (.rw (filA x).cells)) := ⟨_, rfl⟩
  rw [← e1]
  have s1 : σ.Same σ1 := by rw [e1]; exact Mem.Same.put ((Mem.Same.refl σ).bump _) (by omega) _
  have g1 : σ1.get tb = some (.rw [.str x.1, .int .i64 x.2]) := by rw [e1, gS']; rfl
  clear e1
  have hD := h.same s1 hbl hml
  have gb := hD.gb
  unfold Ds.cells at gb
  have hsum : tot D.fs ≤ 16777216 := ok.sum
  have hcur : curF D f = x := by unfold curF; rw [hx]; rfl
  have hxt : x.1.size ≤ tot D.fs := by rw [← hcur]; exact cur_tot f
  refine ldrw (σ := σ1.bump 12) ((s1.get c2 l2).trans h2) (v := .ptr b 0) rfl ?_
  refine To.go ?_
  refine ldrw (σ := σ1.bump 12) gb (v := .map m) rfl ?_
  refine To.go ?_
  refine ldrw (σ := σ1.bump 12) (K := fun a => castI .i64 a _) ((s1.get c3 l3).trans h3) (v := .int .i64 f) rfl ?_
  refine To.go ?_
  refine To.go ?_
  refine ldrw (σ := σ1.bump 12) (K := fun a => castS a _) g1 (v := .str x.1) rfl ?_
  refine To.go ?_
  refine ldrw (σ := σ1.bump 12) (K := fun a => castI .i64 a _) ((s1.get c1 l1).trans h1) (v := .int .i64 k) rfl ?_
  refine To.go ?_
  refine And.intro (by omega) ?_
  rw [show Int.toNat 0 = 0 from rfl, Int.toNat_natCast]
  refine ldrw (σ := σ1.bump 12) (K := fun a => castI .i64 a _) ((s1.get c1 l1).trans h1) (v := .int .i64 k) rfl ?_
  refine To.go ?_
  refine mup_fs (σ := σ1.bump 12) (x := (x.1.extract 0 k, k)) hD.gm ok.knd ?_
  have hesz : (x.1.extract 0 k).size = k := by rw [ByteArray.size_extract]; omega
  have hok : (putD D f (x.1.extract 0 k, k)).ok := putD_ok ok (by dsimp only; omega) (by
    have : szF (getF D.fs f) = x.1.size := by rw [hx]; rfl
    rw [this]; dsimp only; omega)
  refine ⟨⟨?_, ?_, hne, hok⟩, ?_⟩
  · rw [Mem.get_put_ne _ hne]; exact hD.gb
  · rw [gS']; rfl
  · exact Mem.Only.put ((Only.of_same s1).bump _) (by simp) _
theorem aggS_of {l : List AV} {x : ByteArray} {K : ByteArray → Prop} (h : l[0]? = some (.str x)) (hk : K x) : aggW 0 none (.agg l) fun a => castS a K := by
  show optW l[0]? fun a => castS a K
  rw [h]; exact hk
theorem disk_Cut {σ : Mem} {b m k : Nat} {D : Ds} {f : Int} (h : Dsk σ b m D) (hw : wrongD D f = 0) (hst : D.steps < 2 ^ 62) (hk : k ≤ (curF D f).1.size) :
    ACalls PG n_disk_Disk_Cut [.ptr b 0, .int .i64 f, .int .i64 (k : Nat)] σ fun v σ' => v = .int .i64 (deadE (stepD D)) ∧ Dsk σ' b m (cutD D f k) ∧ Mem.Only [b, m] σ σ' := by
  refine ok_disk_Disk_Cut fun live => ?_
  unfold F_disk_Disk_Cut
  obtain ⟨hbl, hml⟩ := h.lt live
  refine boxW_ptr ?_
  refine To.go ?_
  refine To.go ?_
  refine To.go ?_
  obtain ⟨c1, hc1⟩ : ∃ c1, σ.next = c1 := ⟨_, rfl⟩
  obtain ⟨c2, hc2⟩ : ∃ c2, σ.next + 1 = c2 := ⟨_, rfl⟩
  obtain ⟨c3, hc3⟩ : ∃ c3, σ.next + 2 = c3 := ⟨_, rfl⟩
  rw [hc3, hc2, hc1]
  obtain ⟨σ1, e1⟩ : ∃ σ1, σ1 = (((σ.bump 4).put c1 (some (.rw (AV.ptr b 0).cells))).put c2 (some (.rw [.int .i64 f]))).put c3 (some (.rw [.int .i64 (k : Nat)])) := ⟨_, rfl⟩
  rw [← e1]
  have s1 : σ.Same σ1 := by rw [e1]; exact Mem.Same.put (Mem.Same.put (Mem.Same.put ((Mem.Same.refl σ).bump _) (by omega) _) (by omega) _) (by omega) _
  have n1 : σ1.next = σ.next + 4 := by rw [e1]; rfl
  have g3 : σ1.get c3 = some (.rw [.int .i64 (k : Nat)]) := by rw [e1, gS']
  have g2 : σ1.get c2 = some (.rw [.int .i64 f]) := by rw [e1]; exact gN (by omega) gS'
  have g1 : σ1.get c1 = some (.rw [.ptr b 0]) := by rw [e1]; exact gN (by omega) (gN (by omega) gS')
  clear e1
  refine ldrw (σ := σ1.bump 4) g1 (v := .ptr b 0) rfl ?_
  refine To.go ?_
  refine ldrw (σ := σ1.bump 4) (K := fun a => castI .i64 a _) g2 (v := .int .i64 f) rfl ?_
  refine To.go ?_
  have hD := h.same s1 hbl hml
  refine callW_of (disk_wrong (σ := σ1.bump 4) (hD.keep rfl rfl)) ?_
  rintro _ σ2 ⟨rfl, s2⟩
  rw [hw]
  have s12 := s2.ob
  have n12 := s12.next
  refine To.go ?_
  refine ifF (by decide) ?_
  have g12 := (s12.get c1 (by omega)).trans g1
  have g22 := (s12.get c2 (by omega)).trans g2
  have g32 := (s12.get c3 (by omega)).trans g3
  have hD2 := hD.same s12 (by omega) (by omega)
  have gb2 := hD2.gb
  unfold Ds.cells at gb2
  refine ldrw (σ := σ2.bump 16) (K := fun a => castI .i64 a _) g32 (v := .int .i64 (k : Nat)) rfl ?_
  refine To.go ?_
  refine ifF (by omega) ?_
  refine ldrw (σ := σ2.bump 16) (K := fun a => castI .i64 a _) g32 (v := .int .i64 (k : Nat)) rfl ?_
  refine To.go ?_
  refine ldrw (σ := σ2.bump 16) g12 (v := .ptr b 0) rfl ?_
  refine To.go ?_
  refine To.go ?_
  refine ldrw (σ := σ2.bump 16) gb2 (v := .map m) rfl ?_
  refine ldrw (σ := σ2.bump 16) (K := fun a => castI .i64 a _) g22 (v := .int .i64 f) rfl ?_
  refine To.go ?_
  refine look_val (σ := σ2.bump 16) hD2.gm ?_
  rw [show (getF D.fs f).getD (⟨#[]⟩, 0) = curF D f from rfl]
  obtain ⟨x, hx⟩ : ∃ x, curF D f = x := ⟨_, rfl⟩
  rw [hx] at hk ⊢
  unfold filA
  refine aggS_of rfl ?_
  refine ifF (by omega) ?_
  refine ldrw (σ := σ2.bump 21) g12 (v := .ptr b 0) rfl ?_
  refine To.go ?_
  refine ldrw (σ := σ2.bump 21) (K := fun a => castI .i64 a _) g22 (v := .int .i64 f) rfl ?_
  refine To.go ?_
  refine callW_of (disk_change (σ := σ2.bump 21) (C := [c1, c2, c3]) (E := fun x => putD (stepD D) f (x.1.extract 0 k, k)) (hD2.keep rfl rfl) hst ?_ ?_) ?_
  · intro c hc
    simp only [List.mem_cons, List.not_mem_nil, or_false] at hc
    simp only [Mem.next_bump]
    omega
  · intro σ' y hd hcc hy
    have hyx : y = x := by rw [← hx]; unfold curF; rw [hy]; rfl
    subst hyx
    exact disk_Cut_1 hd ((hcc c3 (by simp)).trans g32) ((hcc c1 (by simp)).trans g12) ((hcc c2 (by simp)).trans g22) hy hk
  · rintro _ σ3 ⟨rfl, h3, o3⟩
    refine To.go ?_
    exact ⟨rfl, h3, Only.then (Only.of_same (l := [b, m]) ((s1.trans s12).bump 21)) o3 (fun _ h => h) (fun _ h => h)⟩
end Go.Vit
