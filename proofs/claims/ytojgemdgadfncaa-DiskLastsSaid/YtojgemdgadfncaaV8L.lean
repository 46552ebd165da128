/- A disk: the chapter's examples. -/
import Derived.Test.YtojgemdgadfncaaV8M
set_option linter.unusedVariables false
set_option linter.unusedSimpArgs false
set_option linter.unusedSimpArgs false
set_option maxRecDepth 20000
set_option maxRecDepth 20000
namespace Go.Vit
open Go.Proofs
theorem law16_ints {σ : Mem} {v : AV} {b : Nat} {L M : List Int} (hv : OwnS 1 σ v (ic L) L.length) (hb : ∀ c ∈ blkOf v, c < σ.next) (hg : σ.get b = some (.rw (ic M))) (hl : L = M) (hlen : M.length ≤ 2 ^ 40) (hlb : b < σ.next) :
    ACalls PG n_law16_ints [v, .slice b 0 M.length (.ex M.length)] σ fun r σ' => r = .bool true ∧ σ.Same σ' := by
  subst hl
  refine ok_law16_ints fun live => ?_
  unfold F_law16_ints
  refine hv.rd.len ?_
  refine To.go ?_
  refine ifF (not_not_intro rfl) ?_
  refine loop1 (fun (i : Nat) (x : Int) σ' => x = i ∧ i ≤ L.length ∧ σ.Same σ') (fun i => L.length - i) 0 ⟨rfl, by omega, (Mem.Same.refl σ).bump _⟩ ?_
  rintro i _ σ1 ⟨rfl, hi, s1⟩
  unfold F_law16_ints_l1
  have hv1 := hv.keep (σ' := σ1) fun c hc => s1.get c (hb c hc)
  refine hv1.rd.len ?_
  refine ifD (fun hlt => ?_) (fun hge => ?_)
  · have hiL : i < L.length := by omega
    have hx : (ic L)[i]? = some (.int .i64 L[i]) := by unfold ic; rw [List.getElem?_map, List.getElem?_eq_getElem hiL]; rfl
    rcases hv1 with ⟨_, h0, _⟩ | ⟨b1, rfl, g1, _⟩
    · omega
    refine rdK (σ := σ1.bump 13) (i := i) g1 hiL hx rfl ?_
    refine rdK (σ := σ1.bump 13) (i := i) ((s1.get b hlb).trans hg) hiL hx rfl ?_
    refine ifF (not_not_intro rfl) ?_
    refine iW_of (by omega) ?_
    exact again ⟨i + 1, ⟨by omega, by omega, s1.bump _⟩, by omega⟩
  · exact ⟨rfl, s1.bump _⟩
def w0 : Ds := ⟨[], 0, 10, 0, false, 0⟩
def w1 : Ds := ⟨[(0, (⟨#[97, 98, 99]⟩, 0), 0)], 1, 10, 0, false, 1⟩
def w2 : Ds := ⟨[(0, (⟨#[97, 98, 99]⟩, 3), 0)], 1, 10, 0, false, 2⟩
def w3 : Ds := ⟨[(0, (⟨#[97, 98, 99, 100, 101, 102]⟩, 3), 0)], 1, 10, 0, false, 3⟩
def w4 : Ds := ⟨[(0, (⟨#[97, 98, 99, 100, 101]⟩, 5), 0)], 1, 10, 0, false, 3⟩
def w5 : Ds := ⟨[(0, (⟨#[97, 98, 99, 100, 101]⟩, 5), 0)], 1, 10, 1, false, 3⟩
def w6 : Ds := ⟨[(0, (⟨#[97, 98, 99, 100, 101]⟩, 5), 0), (1, (⟨#[120]⟩, 0), 1)], 2, 10, 0, true, 4⟩
def w7 : Ds := ⟨[(0, (⟨#[97, 98, 99, 100, 101]⟩, 5), 0), (1, (⟨#[120]⟩, 1), 1)], 2, 10, 0, false, 4⟩
theorem e1 : appD w0 0 ⟨#[97, 98, 99]⟩ = w1 := by kernel_rfl
theorem e2 : synD w1 0 = w2 := by kernel_rfl
theorem e3 : appD w2 0 ⟨#[100, 101, 102]⟩ = w3 := by kernel_rfl
theorem e4 : crashD w3 [2] = w4 := by kernel_rfl
theorem e5 : { w4 with armed := imax 1 0 } = w5 := by kernel_rfl
theorem e6 : appD w5 1 ⟨#[120]⟩ = w6 := by kernel_rfl
theorem e7 : crashD w6 [1] = w7 := by kernel_rfl
theorem e8 : numbs w7 = [0, 1] := by kernel_rfl
theorem e9 : (getF w4.fs 0).getD (⟨#[]⟩, 0) = (⟨#[97, 98, 99, 100, 101]⟩, 5) := by kernel_rfl
theorem e10 : (getF w7.fs 1).getD (⟨#[]⟩, 0) = (⟨#[120]⟩, 1) := by kernel_rfl
theorem law16_awake (σ : Mem) : ACalls PG n_law16_awake [] σ fun v _ => v = .bool true := by
  refine ok_law16_awake fun live => ?_
  unfold F_law16_awake
  refine callW_of (disk_New_ok (n := 10) (by decide)) ?_
  rintro _ σ1 ⟨b, m, rfl, _, hb, _, hm, h, _⟩
  refine tupW_of rfl ?_
  refine tpI_of rfl ?_
  refine ifF (not_not_intro rfl) ?_
  refine To.go ?_
  refine ifF (p := False) id ?_
  refine callW_of (disk_Append (σ := σ1.bump 9) (D := w0) (f := 0) (s := ⟨#[97, 98, 99]⟩) (h.keep rfl rfl) (by decide) (by decide) (by decide) (by decide)) ?_
  rintro _ σ2 ⟨rfl, h2, o2⟩
  rw [e1] at h2 ⊢
  have n2 := o2.next
  simp only [Mem.next_bump] at n2
  refine To.go ?_
  refine callW_of (disk_Sync (σ := σ2.bump 3) (D := w1) (f := 0) (h2.keep rfl rfl) (by decide) (by decide)) ?_
  rintro _ σ3 ⟨rfl, h3, o3⟩
  rw [e2] at h3
  have n3 := o3.next
  simp only [Mem.next_bump] at n3
  refine To.go ?_
  refine callW_of (disk_Append (σ := σ3.bump 3) (D := w2) (f := 0) (s := ⟨#[100, 101, 102]⟩) (h3.keep rfl rfl) (by decide) (by decide) (by decide) (by decide)) ?_
  rintro _ σ4 ⟨rfl, h4, o4⟩
  rw [e3] at h4 ⊢
  have n4 := o4.next
  simp only [Mem.next_bump] at n4
  refine To.go ?_
  refine To.go ?_
  obtain ⟨kb, hkb⟩ : ∃ kb, σ4.next + 1 = kb := ⟨_, rfl⟩
  rw [hkb]
  have h4' : Dsk ((σ4.bump 3).put kb (some (.rw [.int .i64 2]))) b m w3 := h4.keep (Mem.get_put_ne _ (by omega) _) (Mem.get_put_ne _ (by omega) _)
  refine callW_of (disk_Crash (D := w3) (ks := [2]) h4' (by decide) (.inl ⟨kb, 2, rfl, rfl, gS'⟩) (by decide) (fun c hc => by simp only [blkOf, List.mem_singleton] at hc; omega)) ?_
  rintro _ σ5 ⟨h5, o5⟩
  rw [e4] at h5
  have n5 := o5.next
  simp only [Mem.next_put, Mem.next_bump] at n5
  refine callW_of (disk_Read (σ := σ5.bump 7) (D := w4) (f := 0) (h5.keep rfl rfl) (by decide)) ?_
  rintro _ σ6 ⟨rfl, s6⟩
  rw [e9]
  have s56 := s6.ob
  have n6 := s56.next
  have h6 := h5.same s56 (by omega) (by omega)
  refine tpS_of rfl ?_
  refine tpI_of rfl ?_
  refine callW_of (disk_Append_full (σ := σ6.bump 3) (D := w4) (f := 0) (s := ⟨#[49, 50, 51, 52, 53, 54]⟩) (h6.keep rfl rfl) (by decide) (by decide) (by decide)) ?_
  rintro _ σ7 ⟨rfl, s7⟩
  have s67 := s7.ob
  have n7 := s67.next
  have h7 := h6.same s67 (by omega) (by omega)
  refine To.go ?_
  refine callW_of (disk_Arm (σ := σ7.bump 2) (D := w4) (n := 1) (h7.keep rfl rfl) (by decide)) ?_
  rintro _ σ8 ⟨h8, o8⟩
  rw [e5] at h8
  have n8 := o8.next
  simp only [Mem.next_bump] at n8
  refine callW_of (disk_Append (σ := σ8.bump 3) (D := w5) (f := 1) (s := ⟨#[120]⟩) (h8.keep rfl rfl) (by decide) (by decide) (by decide) (by decide)) ?_
  rintro _ σ9 ⟨rfl, h9, o9⟩
  rw [e6] at h9 ⊢
  have n9 := o9.next
  simp only [Mem.next_bump] at n9
  refine To.go ?_
  refine To.go ?_
  obtain ⟨kb2, hkb2⟩ : ∃ kb, σ9.next + 1 = kb := ⟨_, rfl⟩
  rw [hkb2]
  have h9' : Dsk ((σ9.bump 3).put kb2 (some (.rw [.int .i64 1]))) b m w6 := h9.keep (Mem.get_put_ne _ (by omega) _) (Mem.get_put_ne _ (by omega) _)
  refine callW_of (disk_Crash (D := w6) (ks := [1]) h9' (by decide) (.inl ⟨kb2, 1, rfl, rfl, gS'⟩) (by decide) (fun c hc => by simp only [blkOf, List.mem_singleton] at hc; omega)) ?_
  rintro _ σ10 ⟨h10, o10⟩
  rw [e7] at h10
  have n10 := o10.next
  simp only [Mem.next_put, Mem.next_bump] at n10
  refine callW_of (disk_Read (σ := σ10.bump 7) (D := w7) (f := 1) (h10.keep rfl rfl) (by decide)) ?_
  rintro _ σ11 ⟨rfl, s11⟩
  rw [e10]
  have s1011 := s11.ob
  have n11 := s1011.next
  have h11 := h10.same s1011 (by omega) (by omega)
  refine tpS_of rfl ?_
  refine tpI_of rfl ?_
  refine ifT (by decide) ?_
  refine ifT (by decide) ?_
  refine ifT (by decide) ?_
  refine ifT (by decide) ?_
  refine ifT (by decide) ?_
  refine ifT (by decide) ?_
  refine ifT (by decide) ?_
  refine ifT (by decide) ?_
  refine ifT (by decide) ?_
  refine callW_of (disk_Files (σ := σ11.bump 41) (D := w7) (h11.keep rfl rfl) (by decide)) ?_
  rintro v σ12 ⟨own, s12⟩
  rw [e8] at own
  have n12 := s12.next
  simp only [Mem.next_bump] at n12
  refine To.go ?_
  obtain ⟨sb, hsb⟩ : ∃ sb, σ11.next + 37 = sb := ⟨_, rfl⟩
  rw [hsb]
  refine callW_of (law16_ints (L := [0, 1]) (M := [0, 1]) (b := sb) (own.1.keep fun c hc => ?_) (fun c hc => ?_) gS' rfl (by decide) (by simp only [Mem.next_put]; omega)) ?_
  · have := (own.2 c hc).1
    simp only [Mem.next_bump] at this
    exact Mem.get_put_ne _ (by omega) _
  · exact (own.2 c hc).2
  · rintro _ σ13 ⟨rfl, _⟩
    exact rfl
end Go.Vit
