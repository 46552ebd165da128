/- A log is opened. -/
import Derived.Test.YtgdaiahnceaieaaV9U
set_option linter.unusedVariables false
set_option linter.unusedSimpArgs false
set_option linter.unusedSimpArgs false
set_option maxRecDepth 20000
namespace Go.Vit
open Go.Proofs
theorem newR_mem {D : Ds} {f : Int} {own : List ByteArray} {e : Nat} : ∀ {l : List Int}, newR D l = some (f, own, e) → f ∈ l ∧ fndR (curF D f).1 = some (own, e)
  | [], h => by cases h
  | g :: l, h => by
    rw [newR] at h
    cases hg : fndR (curF D g).1 with
    | none => rw [hg] at h; have := newR_mem h; exact ⟨List.mem_cons_of_mem _ this.1, this.2⟩
    | some p =>
      rw [hg] at h
      injection h with h
      injection h with h1 h2
      subst h1
      exact ⟨List.mem_cons_self, by rw [hg, h2]⟩
theorem fndR_le {s : ByteArray} {own : List ByteArray} {e : Nat} (h : fndR s = some (own, e)) : e ≤ s.size := by
  unfold fndR at h
  split at h
  · cases h
  · split at h
    · injection h with h; injection h with h1 h2; omega
    · cases h
theorem get_of_key {l : List Ent} {f : Int} (h : f ∈ l.map (·.1)) : ∃ x, getF l f = some x := by
  unfold getF
  cases e : l.find? fun e => decide (e.1 = f) with
  | some y => exact ⟨_, rfl⟩
  | none =>
    rw [List.find?_eq_none] at e
    obtain ⟨y, hy, hf⟩ := List.mem_map.1 h
    exact absurd (decide_eq_true hf) (e y hy)
def opnV (b l : Nat) (w : AV) (D D' : Ds) (σ σ' : Mem) : Prop :=
  match newO D with
  | none => w = .nils ∧ σ'.get l = some (.rw (logC b 0 false false)) ∧ TidyD D D' false 0 ((curF D 0).1.extract 0 0)
  | some (f, own, e) => SL σ' w own ∧ (∀ c ∈ blkOf w, c ≠ l ∧ σ.next ≤ c ∧ c < σ'.next) ∧ σ'.get l = some (.rw (logC b f true false)) ∧ TidyD D D' true f ((curF D f).1.extract 0 e)
theorem seglog_Open {σ : Mem} {b m : Nat} {D : Ds} (h : Dsk σ b m D) (c : Calm D) (hl : D.fs.length ≤ 12) (hr : rngD D) (hst : D.steps < 2 ^ 61) :
    ACalls PG n_seglog_Open [.ptr b 0] σ fun v σ' => ∃ l w D', v = .tup [.ptr l 0, w, .int .i64 0] ∧ σ.next ≤ l ∧ l < σ'.next ∧ Dsk σ' b m D' ∧ Mem.Only [b, m] σ σ' ∧ opnV b l w D D' σ σ' := by
  refine ok_seglog_Open fun live => ?_
  unfold F_seglog_Open
  obtain ⟨hbl, hml⟩ := h.lt live
  refine To.go ?_
  refine ifF (p := False) id ?_
  refine callW_of (disk_Dead (σ := σ.bump 9) (h.keep rfl rfl)) ?_
  rintro _ σ1 ⟨rfl, s1⟩
  have s01 := s1.ob
  rw [c.dead]
  refine To.go ?_
  refine ifI (fun h => by cases h) (fun _ => ?_)
  have hD1 := h.same s01 hbl hml
  refine callW_of (seglog_newest (σ := σ1.bump 11) (hD1.keep rfl rfl) c.dead hl hr) ?_
  rintro v σ2 ⟨⟨l, w, hl1, hl2, hv⟩, s2⟩
  have s02 := s01.trans s2.ob
  have n1 := s01.next
  have n2 := s2.next
  simp only [Mem.next_bump] at hl1 n2
  have hD2 := h.same s02 hbl hml
  unfold opnV
  cases hn : newO D with
  | none =>
    rw [hn] at hv
    obtain ⟨rfl, hg⟩ := hv
    refine tupW_of rfl ?_
    refine tupW_of rfl ?_
    refine tpI_of rfl ?_
    refine tpI_of rfl ?_
    refine ifF (by decide) ?_
    refine callW_of (seglog_tidy (σ := σ2.bump 6) (l := l) (e := 0) (hD2.keep rfl rfl) c hl hr hst hg ⟨by omega, by omega⟩ (fun h => by cases h)) ?_
    rintro _ σ3 ⟨rfl, ⟨D', hD', ht⟩, o3⟩
    have n3 := o3.next
    simp only [Mem.next_bump] at n3
    refine To.go ?_
    refine ifF (by decide) ?_
    refine ⟨l, .nils, D', rfl, by omega, by simp only [Mem.next_bump]; omega, hD'.keep rfl rfl, (Only.then (Only.of_same (l := [b, m]) s02) o3.ob (fun _ h => h) (fun _ h => h)).bump _, rfl, ?_, ht⟩
    show σ3.get l = _
    rw [o3.ob.get l hl2 (by simp; omega)]; exact hg
  | some p =>
    obtain ⟨f, own, e⟩ := p
    rw [hn] at hv
    obtain ⟨rfl, hg, hw, hwb⟩ := hv
    simp only [Mem.next_bump] at hwb
    obtain ⟨hfm, hfnd⟩ := newR_mem hn
    have hfk : f ∈ D.fs.map (·.1) := numbs_mem.1 (List.mem_reverse.1 hfm)
    have hfr : 0 ≤ f ∧ f < 65536 := by
      obtain ⟨e, he, rfl⟩ := List.mem_map.1 hfk
      exact hr e he
    refine tupW_of rfl ?_
    refine tupW_of rfl ?_
    refine tpI_of rfl ?_
    refine tpI_of rfl ?_
    refine ifF (by decide) ?_
    refine callW_of (seglog_tidy (σ := σ2.bump 6) (l := l) (e := e) (hD2.keep rfl rfl) c hl hr hst hg ⟨by omega, by omega⟩ (fun _ => ⟨hfr, get_of_key hfk, fndR_le hfnd⟩)) ?_
    rintro _ σ3 ⟨rfl, ⟨D', hD', ht⟩, o3⟩
    have n3 := o3.next
    simp only [Mem.next_bump] at n3
    refine To.go ?_
    refine ifF (by decide) ?_
    refine ⟨l, w, D', rfl, by omega, by simp only [Mem.next_bump]; omega, hD'.keep rfl rfl, (Only.then (Only.of_same (l := [b, m]) s02) o3.ob (fun _ h => h) (fun _ h => h)).bump _, ?_, fun c hc => ?_, ?_, ht⟩
    · refine hw.keep fun c hc => ?_
      have := hwb c hc
      show σ3.get c = _
      exact o3.ob.get c (by omega) (by simp; omega)
    · have := hwb c hc
      simp only [Mem.next_bump]; omega
    · show σ3.get l = _
      rw [o3.ob.get l hl2 (by simp; omega)]; exact hg
end Go.Vit
