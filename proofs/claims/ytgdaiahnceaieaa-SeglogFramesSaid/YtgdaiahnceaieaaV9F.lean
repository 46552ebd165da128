/- A disk: Append, Sync. -/
import Derived.Test.YtgdaiahnceaieaaV9E
set_option linter.unusedVariables false
set_option linter.unusedSimpArgs false
set_option linter.unusedSimpArgs false
set_option maxRecDepth 20000
namespace Go.Vit
open Go.Proofs
def curF (D : Ds) (f : Int) : Fil := (getF D.fs f).getD (⟨#[]⟩, 0)
theorem get_mem {l : List Ent} {f : Int} {x : Fil} (h : getF l f = some x) : ∃ n, (f, x, n) ∈ l := by
  unfold getF at h
  rw [Option.map_eq_some_iff] at h
  obtain ⟨⟨k, y, n⟩, h1, rfl⟩ := h
  have h2 := List.find?_some h1
  have h3 := List.mem_of_find?_eq_some h1
  have : k = f := of_decide_eq_true h2
  subst this
  exact ⟨n, h3⟩
theorem cur_syn {D : Ds} (ok : D.ok) (f : Int) : (curF D f).2 ≤ (curF D f).1.size := by
  unfold curF
  cases h : getF D.fs f with
  | none => decide
  | some x =>
    obtain ⟨n, hn⟩ := get_mem h
    exact ok.syn _ hn
theorem le_tot {l : List Ent} {e : Ent} (h : e ∈ l) : e.2.1.1.size ≤ tot l := by
  obtain ⟨l1, l2, rfl⟩ := List.append_of_mem h
  unfold tot
  simp only [List.map_append, List.map_cons, List.sum_append, List.sum_cons]; omega
theorem cur_tot {D : Ds} (f : Int) : (curF D f).1.size ≤ tot D.fs := by
  unfold curF
  cases h : getF D.fs f with
  | none => exact Nat.zero_le _
  | some x =>
    obtain ⟨n, hn⟩ := get_mem h
    exact le_tot hn
def appD (D : Ds) (f : Int) (s : ByteArray) : Ds := stepD (putD D f ((curF D f).1 ++ s, (curF D f).2))
theorem disk_Append {σ : Mem} {b m : Nat} {D : Ds} {f : Int} {s : ByteArray} (h : Dsk σ b m D) (hw : wrongD D f = 0) (hs : s.size ≤ 2 ^ 40) (hf : ¬ D.limit < (tot D.fs + s.size : Nat)) (hst : D.steps < 2 ^ 62) :
    ACalls PG n_disk_Disk_Append [.ptr b 0, .int .i64 f, .str s] σ fun v σ' => v = .int .i64 (deadE (appD D f s)) ∧ Dsk σ' b m (appD D f s) ∧ Mem.Only [b, m] σ σ' := by
  refine ok_disk_Disk_Append fun live => ?_
  unfold F_disk_Disk_Append
  obtain ⟨hbl, hml⟩ := h.lt live
  refine callW_of (disk_wrong (σ := σ.bump 5) (h.keep rfl rfl)) ?_
  rintro _ σ1 ⟨rfl, s1⟩
  rw [hw]
  have s01 := s1.ob
  have n01 := s01.next
  have h1 := h.same s01 hbl hml
  have g1 := h1.gb
  unfold Ds.cells at g1
  have ok := h.ok
  have hne := h.ne
  have hsum : tot D.fs ≤ 16777216 := ok.sum
  have hlim := ok.lim
  refine To.go ?_
  refine ifF (by decide) ?_
  refine To.go ?_
  refine To.go ?_
  refine ldrw (σ := σ1.bump 12) (K := fun a => castI .i64 a _) g1 (v := .int .i64 D.limit) rfl ?_
  refine To.go ?_
  refine callW_of (disk_Size (σ := σ1.bump 12) (h1.keep rfl rfl)) ?_
  rintro _ σ2 ⟨rfl, s2⟩
  refine And.intro (s2.get b (by simp only [Mem.next_bump]; omega)) ?_
  refine To.go ?_
  refine iW_of (by omega) ?_
  refine ifF (by omega) ?_
  have s02 := s01.trans s2.ob
  have n02 := s02.next
  have h2 := h.same s02 hbl hml
  have g2 := h2.gb
  unfold Ds.cells at g2
  have ct := cur_tot (D := D) f
  have cs := cur_syn ok f
  refine To.go ?_
  refine ldrw (σ := σ2.bump 8) g2 (v := .map m) rfl ?_
  refine look_val (σ := σ2.bump 8) h2.gm ?_
  rw [show (getF D.fs f).getD (⟨#[]⟩, 0) = curF D f from rfl]
  obtain ⟨⟨da, sy⟩, hx⟩ : ∃ x, curF D f = x := ⟨_, rfl⟩
  have happ : appD D f s = stepD (putD D f (da ++ s, sy)) := by unfold appD; rw [hx]
  rw [hx] at ct cs ⊢
  rw [happ]
  dsimp only at ct cs
  have hsz := ByteArray.size_append (a := da) (b := s)
  have hx2 : szF (getF D.fs f) = da.size := by
    have : szF (getF D.fs f) = (curF D f).1.size := rfl
    rw [this, hx]
  refine To.go ?_
  obtain ⟨tb, htb⟩ : ∃ tb, σ2.next + 6 = tb := ⟨_, rfl⟩
  rw [htb]
  unfold filA
  refine stn gS' (by simp) rfl rfl ?_
  refine To.go ?_
  refine ldrw (K := fun a => castS a _) (gB gS') (v := .str da) rfl ?_
  refine To.go ?_
  refine And.intro (by omega) ?_
  refine To.go ?_
  refine st1 (gB gS') (show 0 < 2 by decide) rfl ?_
  obtain ⟨σ3, e3⟩ : ∃ σ3, σ3 = ((((σ2.bump 8).put tb (some (.rw [.str ⟨#[]⟩, .int .i64 0]))).put tb (some (.rw (setAt [AV.str ⟨#[]⟩, .int .i64 0] 0 [.str da, .int .i64 sy])))).bump 6).put tb (some (.rw ((setAt [AV.str ⟨#[]⟩, .int .i64 0] 0 [.str da, .int .i64 sy]).set 0 (.str (da ++ s))))) := ⟨_, rfl⟩
  rw [← e3]
  have s03 : σ.Same σ3 := by rw [e3]; exact Mem.Same.put (Mem.Same.bump (Mem.Same.put (Mem.Same.put (s02.bump _) (by omega) _) (by omega) _) _) (by omega) _
  have g3 : σ3.get tb = some (.rw [.str (da ++ s), .int .i64 sy]) := by rw [e3, gS']; rfl
  have n3 : σ3.next = σ2.next + 14 := by rw [e3]; rfl
  clear e3
  have h3 := h.same s03 hbl hml
  have gb3 := h3.gb
  unfold Ds.cells at gb3
  refine To.go ?_
  refine ldrw (σ := σ3.bump 7) gb3 (v := .map m) rfl ?_
  refine ldnq (σ := σ3.bump 7) g3 rfl (by simp) ?_
  refine mup_fs (σ := σ3.bump 7) (x := (da ++ s, sy)) h3.gm ok.knd ?_
  have hok : (putD D f (da ++ s, sy)).ok := putD_ok ok (by show sy ≤ (da ++ s).size; omega) (by show tot D.fs + (da ++ s).size ≤ _; omega)
  obtain ⟨σ4, e4⟩ : ∃ σ4, σ4 = (σ3.bump 7).put m (some (.map (encE (fsE (putL D.fs f (da ++ s, sy) D.clock))) (putC D.fs f D.clock))) := ⟨_, rfl⟩
  rw [← e4]
  have o4 : Mem.Only [b, m] σ σ4 := by rw [e4]; exact Mem.Only.put ((Only.of_same s03).bump _) (by simp) _
  have h4 : Dsk σ4 b m (putD D f (da ++ s, sy)) := by
    refine ⟨?_, ?_, hne, hok⟩
    · rw [e4, Mem.get_put_ne _ hne]; exact gb3
    · rw [e4, gS']; rfl
  clear e4
  refine callW_of (disk_step (σ := σ4.bump 3) (h4.keep rfl rfl) hst) ?_
  rintro _ σ5 ⟨rfl, h5, o5⟩
  refine To.go ?_
  refine ⟨rfl, h5, ?_⟩
  have n4 := o4.next
  have n5 := o5.next
  simp only [Mem.next_bump] at n5
  refine ⟨by omega, fun c hc hn => ?_⟩
  simp only [List.mem_cons, List.not_mem_nil, or_false, not_or] at hn
  rw [o5.get c (by simp only [Mem.next_bump]; omega) (by simp; exact hn.1)]
  exact o4.get c hc (by simp; exact hn)
end Go.Vit
