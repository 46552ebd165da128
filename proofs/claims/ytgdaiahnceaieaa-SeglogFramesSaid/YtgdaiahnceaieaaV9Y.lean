/- A log's calls. -/
import Derived.Test.YtgdaiahnceaieaaV9V
set_option linter.unusedVariables false
set_option linter.unusedSimpArgs false
set_option linter.unusedSimpArgs false
set_option maxRecDepth 20000
namespace Go.Vit
open Go.Proofs
def bad (s : ByteArray) : Bool := decide (s = ⟨#[]⟩) || decide (1000000 < s.size)
def wrongL (dead : Bool) (L : List ByteArray) : Int := if dead = true then 50 else if L.any bad = true then 1 else 0
theorem wrong_1 {s : ByteArray} {σ : Mem} : ACalls PG n_seglog_Log_wrong_1 [.str s] σ fun v σ' => v = .bool (bad s) ∧ σ.Same σ' := by
  refine ok_seglog_Log_wrong_1 fun _ => ?_
  unfold F_seglog_Log_wrong_1 bad
  refine ifD (fun h => ⟨by rw [decide_eq_true h]; rfl, (Mem.Same.refl σ).bump _⟩) (fun h => ⟨?_, (Mem.Same.refl σ).bump _⟩)
  rw [decide_eq_false h, Bool.false_or]
  rw [decide_eq_decide.2 (show (1000000 : Int) < (s.size : Int) ↔ 1000000 < s.size by omega)]
theorem index_bad {σ : Mem} {v : AV} {L : List ByteArray} (hl : L.length ≤ 2 ^ 40) (h : SL σ v L) : ACalls PG n_slices_IndexFunc___string_string_ [v, .func 68 []] σ fun u σ' => (∃ i : Int, u = .int .i64 i ∧ (0 ≤ i ↔ L.any bad = true)) ∧ σ.Same σ' := by
  refine ok_slices_IndexFunc___string_string_ fun live => ?_
  unfold F_slices_IndexFunc___string_string_
  have hvl := h.lt live
  refine h.len ?_
  refine loop1 (g1 := tI) (fun (i : Nat) (x : Int) (σ' : Mem) => x = (i : Nat) ∧ i ≤ L.length ∧ L.any bad = (L.drop i).any bad ∧ σ.Same σ') (fun i => L.length - i) 0 ⟨rfl, by omega, rfl, (Mem.Same.refl σ).bump _⟩ ?_
  rintro i _ σ1 ⟨rfl, hi, hany, s1⟩
  unfold F_slices_IndexFunc___string_string__l1
  refine ifD (fun hlt => ?_) (fun hge => ?_)
  · have hi' : i < L.length := by omega
    refine h.at (σ' := σ1.bump 9) (fun c hc => s1.get c (hvl c hc)) (i := i) rfl hi' ?_
    rw [List.drop_eq_getElem_cons hi', List.any_cons] at hany
    refine callvW_of (l' := []) (wrong_1 (s := L[i]) (σ := σ1.bump 9)) ?_
    rintro _ σ2 ⟨rfl, s2⟩
    have s02 := s1.trans s2.ob
    refine To.go ?_
    refine ifI (fun hb => ?_) (fun hb => ?_)
    · rw [hb, Bool.true_or] at hany
      exact ⟨⟨_, rfl, by rw [hany]; simp⟩, s02.bump _⟩
    · rw [hb, Bool.false_or] at hany
      refine iW_of (by omega) ?_
      exact again ⟨i + 1, ⟨by omega, by omega, hany, s02.bump _⟩, by omega⟩
  · rw [show i = L.length from by omega, List.drop_length] at hany
    exact ⟨⟨_, rfl, by rw [hany]; simp⟩, s1.bump _⟩
theorem seglog_wrong {σ : Mem} {l b : Nat} {f : Int} {begun dead : Bool} {v : AV} {L : List ByteArray} (hl : L.length ≤ 2 ^ 40) (hg : σ.get l = some (.rw (logC b f begun dead))) (h : SL σ v L) :
    ACalls PG n_seglog_Log_wrong [.ptr l 0, v] σ fun u σ' => u = .int .i64 (wrongL dead L) ∧ σ.Same σ' := by
  refine ok_seglog_Log_wrong fun live => ?_
  unfold F_seglog_Log_wrong wrongL
  refine To.go ?_
  refine ifF (p := False) id ?_
  refine lfB_of (σ := σ.bump 9) hg rfl ?_
  refine ifI (fun hd => ⟨by rw [if_pos hd], (Mem.Same.refl σ).bump _⟩) (fun hd => ?_)
  rw [if_neg (by rw [hd]; simp)]
  refine callW_of (Q := fun u σ' => u = .bool (L.any bad) ∧ σ.Same σ') ?_ ?_
  · refine ok_slices_ContainsFunc___string_string_ fun _ => ?_
    unfold F_slices_ContainsFunc___string_string_
    refine callW_of (index_bad (σ := (σ.bump 12).bump 6) hl (h.keep fun _ _ => rfl)) ?_
    rintro _ σ1 ⟨⟨i, rfl, hi⟩, s1⟩
    refine To.go ?_
    refine ⟨?_, s1.ob.ob⟩
    cases e : L.any bad with
    | true => rw [decide_eq_true (hi.2 e)]
    | false => rw [decide_eq_false (fun h0 => by rw [hi.1 h0] at e; cases e)]
  · rintro _ σ1 ⟨rfl, s1⟩
    refine To.go ?_
    refine ifI (fun hb => ⟨by rw [if_pos hb], s1.bump _⟩) (fun hb => ⟨by rw [if_neg (by rw [hb]; simp)], s1.bump _⟩)
theorem seglog_told {σ : Mem} {l b : Nat} {f e : Int} {begun dead : Bool} (hg : σ.get l = some (.rw (logC b f begun dead))) :
    ACalls PG n_seglog_Log_told [.ptr l 0, .int .i64 e] σ fun u σ' => u = .int .i64 e ∧ σ'.get l = some (.rw (logC b f begun (dead || decide (e = 50)))) ∧ Mem.Only [l] σ σ' := by
  refine ok_seglog_Log_told fun live => ?_
  unfold F_seglog_Log_told
  refine join0 (fun σ' => σ'.get l = some (.rw (logC b f begun (dead || decide (e = 50)))) ∧ Mem.Only [l] σ σ') ?_ ?_
  · refine ifD (fun h => ?_) (fun h => ?_)
    · refine To.go ?_
      refine st1 (σ := σ.bump 7) hg (by simp [logC]) rfl ?_
      refine ⟨?_, Mem.Only.put ((Mem.Only.refl _ σ).bump _) (by simp) _⟩
      rw [gS', decide_eq_true h, Bool.or_true]; rfl
    · rw [decide_eq_false h, Bool.or_false]
      exact ⟨hg, (Mem.Only.refl _ σ).bump _⟩
  · rintro σ1 ⟨g1, o1⟩
    unfold F_seglog_Log_told_j1
    exact ⟨rfl, g1, o1.bump _⟩
def datL (begun : Bool) (L : List ByteArray) : ByteArray := if begun = true then frs crcOf L else frs crcOf [be4 0] ++ frs crcOf L
theorem datL_size (begun : Bool) (L : List ByteArray) : (datL begun L).size ≤ 12 + fsz L := by
  unfold datL
  split
  · rw [frs_size]; omega
  · rw [ByteArray.size_append, frs_size, frs_size]
    have : fsz [be4 0] = 12 := rfl
    omega
theorem seglog_Append {σ : Mem} {b m l : Nat} {D : Ds} {f : Int} {begun : Bool} {v : AV} {L : List ByteArray} (h : Dsk σ b m D) (hd : D.dead = false) (hg : σ.get l = some (.rw (logC b f begun false))) (hlb : l ≠ b ∧ l ≠ m) (hv : SL σ v L)
    (hL : fsz L ≤ 2 ^ 30) (hgood : L.any bad = false) (hne : L ≠ []) (hf : 0 ≤ f ∧ f < 65536) (hfull : ¬ D.limit < ((tot D.fs + (datL begun L).size : Nat) : Int)) (hst : D.steps < 2 ^ 62) :
    ACalls PG n_seglog_Log_Append [.ptr l 0, v] σ fun u σ' => u = .int .i64 (deadE (stepD D)) ∧ Dsk σ' b m (appD D f (datL begun L)) ∧ σ'.get l = some (.rw (logC b f (begun || !(stepD D).dead) (stepD D).dead)) ∧ Mem.Only [b, m, l] σ σ' := by
  refine ok_seglog_Log_Append fun live => ?_
  unfold F_seglog_Log_Append
  obtain ⟨hbl, hml⟩ := h.lt live
  have hll := live.lt hg
  have hvl := hv.lt live
  have hlen := fsz_len L
  refine callW_of (seglog_wrong (σ := σ.bump 5) (by omega) hg (hv.keep fun _ _ => rfl)) ?_
  rintro _ σ1 ⟨rfl, s1⟩
  have s01 := s1.ob
  have n1 := s01.next
  unfold wrongL
  rw [hgood, if_neg (by simp), if_neg (by simp)]
  refine To.go ?_
  refine ifF (by decide) ?_
  refine hv.len ?_
  refine ifF (fun e => hne (List.length_eq_zero_iff.1 (by omega))) ?_
  refine callW_of (seglog_frames (σ := σ1.bump 10) (L := L) (by omega) (hv.keep fun c hc => s01.get c (hvl c hc))) ?_
  rintro _ σ2 ⟨rfl, s2⟩
  have s02 := s01.trans s2.ob
  have n2 := s02.next
  have g2 : σ2.get l = some (.rw (logC b f begun false)) := (s02.get l hll).trans hg
  refine To.go ?_
  refine lfB_of (σ := σ2.bump 5) g2 rfl ?_
  refine join1 (g1 := .s) (fun (s : ByteArray) σ' => s = datL begun L ∧ σ.Same σ') ?_ ?_
  · cases begun with
    | true =>
      refine ifI (fun h => by cases h) (fun _ => ?_)
      exact ⟨rfl, s02.bump _⟩
    | false =>
      refine ifI (fun _ => ?_) (fun h => by cases h)
      refine callW_of (seglog_big (n := 0) (σ := σ2.bump 11)) ?_
      rintro _ σ3 ⟨rfl, s3⟩
      have s03 := s02.trans s3.ob
      have n3 := s3.next
      simp only [Mem.next_bump] at n3
      refine To.go ?_
      refine To.go ?_
      obtain ⟨σ4, e4⟩ : ∃ σ4, σ4 = σ3.put (σ2.next + 6) (some (.rw [.str (be4 0)])) := ⟨_, rfl⟩
      rw [← e4]
      have g4 : σ4.get (σ2.next + 6) = some (.rw [.str (be4 0)]) := by rw [e4, gS']
      have s04 : σ.Same σ4 := by rw [e4]; exact s03.put (by omega) _
      clear e4
      refine callW_of (seglog_frames (σ := σ4) (L := [be4 0]) (by decide) (SL.one g4)) ?_
      rintro _ σ5 ⟨rfl, s5⟩
      refine To.go ?_
      refine ⟨?_, rfl, s04.trans s5⟩
      rw [frs_size, frs_size]
      have : fsz [be4 0] = 12 := rfl
      omega
  · rintro s σ3 ⟨rfl, s3⟩
    unfold F_seglog_Log_Append_j1
    have n3 := s3.next
    have g3 : σ3.get l = some (.rw (logC b f begun false)) := (s3.get l hll).trans hg
    have hD3 := h.same s3 hbl hml
    refine lfW_of (σ := σ3.bump 13) g3 rfl ?_
    refine lfI_of (σ := σ3.bump 13) g3 rfl ?_
    have hds := datL_size begun L
    refine callW_of (disk_Append (σ := σ3.bump 13) (f := f) (hD3.keep rfl rfl) (wrong0 hd hf) (by omega) hfull hst) ?_
    rintro _ σ4 ⟨rfl, h4, o4⟩
    rw [show deadE (appD D f (datL begun L)) = deadE (stepD D) from rfl]
    have o04 : Mem.Only [b, m] σ σ4 := Only.then (Only.of_same (l := [b, m]) s3) o4.ob (fun _ h => h) (fun _ h => h)
    have n4 := o04.next
    have g4 : σ4.get l = some (.rw (logC b f begun false)) := (o04.get l hll (by simp; exact hlb)).trans hg
    refine To.go ?_
    refine callW_of (seglog_told (σ := σ4) g4) ?_
    rintro _ σ5 ⟨rfl, g5, o5⟩
    refine To.go ?_
    have hD5 : Dsk σ5 b m (appD D f (datL begun L)) := h4.keep (o5.get b (by omega) (by simp; exact fun e => hlb.1 e.symm)) (o5.get m (by omega) (by simp; exact fun e => hlb.2 e.symm))
    have o05 : Mem.Only [b, m, l] σ σ5 := Only.then o04 o5 (by simp) (by simp)
    have hde : (false || decide (deadE (stepD D) = 50)) = (stepD D).dead := by unfold deadE; cases (stepD D).dead <;> rfl
    rw [hde] at g5
    refine join0 (fun σ' => Dsk σ' b m (appD D f (datL begun L)) ∧ σ'.get l = some (.rw (logC b f (begun || !(stepD D).dead) (stepD D).dead)) ∧ Mem.Only [b, m, l] σ σ') ?_ ?_
    · refine lfB_of (σ := σ5.bump 12) g5 rfl ?_
      have put : ∀ {x : Bool} {K : Mem → Prop}, (x = (begun || !(stepD D).dead)) → (∀ σ', Dsk σ' b m (appD D f (datL begun L)) ∧ σ'.get l = some (.rw (logC b f (begun || !(stepD D).dead) (stepD D).dead)) ∧ Mem.Only [b, m, l] σ σ' → K σ') → stW 1 (σ5.bump 12) (.ptr l 2) (.bool x) K := by
        intro x K hx hk
        refine st1 (σ := σ5.bump 12) g5 (by simp [logC]) rfl ?_
        refine hk _ ⟨hD5.keep (Mem.get_put_ne _ (fun e => hlb.1 e.symm) _) (Mem.get_put_ne _ (fun e => hlb.2 e.symm) _), ?_, Mem.Only.put (o05.bump _) (by simp) _⟩
        rw [gS', hx]; rfl
      refine ifI (fun hb => ?_) (fun hb => ?_)
      · refine To.go ?_
        exact put (by rw [hb]; rfl) fun _ h => h
      · refine To.go ?_
        refine put ?_ fun _ h => h
        rw [hb, Bool.false_or]
        unfold deadE
        cases (stepD D).dead <;> rfl
    · rintro σ6 ⟨hD6, g6, o6⟩
      unfold F_seglog_Log_Append_j2
      exact ⟨rfl, hD6.keep rfl rfl, g6, o6.bump _⟩
end Go.Vit
