/- A disk: the numbers of its files, sorted. -/
import Derived.Test.YtgdaiahnceaieaaV9H
set_option linter.unusedVariables false
set_option linter.unusedSimpArgs false
set_option linter.unusedSimpArgs false
set_option maxRecDepth 20000
namespace Go.Vit
open Go.Proofs
theorem cellOk_int {n : Int} {K : Prop} (h : K) : cellOkW (.int .i64 n) 1 K := h
theorem AppendSeq_keys {σ : Mem} {c m clock : Nat} {fs : List Ent} (hc : σ.get c = some (.rw [.map m])) (hm : σ.get m = some (.map (fs.map entA) clock)) (hb : ∀ e ∈ fs, e.2.2 < clock) (hn : (fs.map (·.2.2)).Nodup) (hl : fs.length ≤ 2 ^ 40) :
    ACalls PG n_slices_AppendSeq___int_int_ [.nils, .func n_maps_Keys_map_int_disk_file_int_disk_file__1 [.ptr c 0]] σ fun v σ' => ∃ T : List Ent, T.Perm fs ∧ Own 1 σ σ' v (ic (T.map (·.1))) T.length ∧ σ.Same σ' := by
  refine ok_slices_AppendSeq___int_int_ fun live => ?_
  unfold F_slices_AppendSeq___int_int_
  have hcl := live.lt hc
  have hml := live.lt hm
  refine boxW_nils ?_
  refine To.go ?_
  obtain ⟨a, ha⟩ : ∃ a, σ.next = a := ⟨_, rfl⟩
  rw [ha]
  obtain ⟨σ1, e1⟩ : ∃ σ1, σ1 = (σ.bump 2).put a (some (.rw AV.nils.cells)) := ⟨_, rfl⟩
  rw [← e1]
  have s1 : σ.Same σ1 := by rw [e1]; exact Mem.Same.put ((Mem.Same.refl σ).bump _) (by omega) _
  have g1 : σ1.get a = some (.rw [.nils]) := by rw [e1, gS']; rfl
  have n1 : σ1.next = σ.next + 2 := by rw [e1]; rfl
  have live1 : ∀ b k, (σ1.bump 1).get b = some k → b < (σ1.bump 1).next := by
    intro b k hk
    simp only [Mem.next_bump]
    have hk : σ1.get b = some k := hk
    rw [e1] at hk
    by_cases hba : b = a
    · omega
    · rw [Mem.get_put_ne _ hba] at hk
      have := live.lt (show σ.get b = some k from hk)
      omega
  clear e1
  refine keys_range (σ := σ1.bump 1) (c := c) (m := m) (clock := clock) (fs := fs) (J := fun L σ' => ∃ v, σ'.get a = some (.rw [v]) ∧ Own 1 σ σ' v (ic (L.map (·.1))) L.length ∧ a ∉ blkOf v ∧ σ.Same σ' ∧ a < σ'.next) hb hn live1 ?_ ?_ ?_ ?_ ?_ ?_
  · rintro L σ' ⟨v, _, _, _, s, _⟩
    exact ⟨(s.get c hcl).trans hc, (s.get m hml).trans hm⟩
  · rintro L σ' k ⟨v, h1, h2, h3, h4, h5⟩
    exact ⟨v, h1, h2.same ((Mem.Same.refl _).bump _), h3, h4.bump _, by simp only [Mem.next_bump]; omega⟩
  · rintro L σ' it q ⟨v, h1, h2, h3, h4, h5⟩ hi hge hlt
    simp only [Mem.next_bump] at hge
    have hia : it ≠ a := by omega
    refine ⟨v, (Mem.get_put_ne _ (fun e => hia e.symm) _).trans h1, ?_, h3, h4.put (by omega) _, h5⟩
    refine ⟨h2.1.keep fun b hb => Mem.get_put_ne _ (fun e => ?_) _, h2.2⟩
    subst e
    rcases h2.1 with ⟨rfl, _⟩ | ⟨b', rfl, hg, _⟩
    · simp [blkOf] at hb
    · simp only [blkOf, List.mem_singleton] at hb
      subst hb
      rcases hi with hi | ⟨_, _, _, _, hi⟩ <;> rw [hg] at hi <;> cases hi
  · exact ⟨.nils, g1, Own.nil 1 _ _, by simp [blkOf], s1.bump _, by simp only [Mem.next_bump]; omega⟩
  · rintro L e σ2 it ⟨v, h1, h2, h3, h4, h5⟩ he hle ⟨i1, i2, i3, i4, hi⟩ hlt
    have hrw : ∀ b ∈ blkOf v, ∃ l, σ2.get b = some (.rw l) := by
      intro b hb
      rcases h2.1 with ⟨rfl, _⟩ | ⟨b', rfl, hg, _⟩
      · simp [blkOf] at hb
      · simp only [blkOf, List.mem_singleton] at hb
        subst hb; exact ⟨_, hg⟩
    have hitv : it ∉ blkOf v := fun hb => by
      obtain ⟨l, hl⟩ := hrw it hb
      rw [hi] at hl; cases hl
    have hita : it ≠ a := fun e => by rw [e, h1] at hi; cases hi
    show ldW (σ2.bump 6) (.ptr a 0) _
    refine ldrw (σ := σ2.bump 6) h1 (v := v) rfl ?_
    refine cellOk_int ?_
    refine To.go ?_
    refine Own.push (σ := σ) (σ1 := σ2) (m := 1) (j := 6) (c := ic [e.1]) h2 h4 rfl (by omega) (by omega) (by omega) rfl (ic_one _) (ic_one _) (by omega) ?_ (by simp only [Mem.next_put, Mem.next_bump]; omega)
    intro v' σ3 own3 s3 hid3 o3 b3
    have ga : σ3.get a = some (.rw [v]) := (o3.get a h5 h3).trans h1
    have hone : v'.one = true := by rcases own3.1 with ⟨rfl, _⟩ | ⟨b, rfl, _⟩ <;> rfl
    have n3 := o3.next
    have ha3 : a ∉ blkOf v' := fun hb => by
      rcases b3 a hb with hb | hb
      · exact h3 hb
      · omega
    refine st1 ga (by simp) hone ?_
    refine ⟨rfl, ⟨v', by rw [gS']; rfl, ?_, ha3, s3.put (by omega) _, by simp only [Mem.next_put]; omega⟩, ?_, by simp only [Mem.next_put]; omega⟩
    · rw [List.length_append, List.map_append, ic_append]
      exact ⟨own3.1.keep fun b hb => Mem.get_put_ne _ (fun e => ha3 (by rw [← e]; exact hb)) _, own3.2⟩
    · rw [Mem.get_put_ne _ hita]
      exact o3.get it hlt hitv
  · rintro L σ2 hp ⟨v, h1, h2, h3, h4, h5⟩
    refine ldrw (σ := σ2.bump 2) h1 (v := v) rfl ?_
    exact ⟨L, hp, h2.same ((Mem.Same.refl _).bump _), h4.bump _⟩
end Go.Vit
