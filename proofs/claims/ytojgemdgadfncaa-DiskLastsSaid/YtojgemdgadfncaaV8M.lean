/- A disk: Crash. -/
import Derived.Test.YtojgemdgadfncaaV8K
set_option linter.unusedVariables false
set_option linter.unusedSimpArgs false
set_option linter.unusedSimpArgs false
set_option maxRecDepth 20000
namespace Go.Vit
open Go.Proofs
theorem fold_step {s : Ds × List Int} {L : List Int} {i : Nat} (h : i < L.length) : (L.take (i + 1)).foldl crash1 s = crash1 ((L.take i).foldl crash1 s) L[i] := by
  rw [List.take_succ_eq_append_getElem h, List.foldl_append]; rfl
theorem disk_Crash {σ : Mem} {b m : Nat} {D : Ds} {v : AV} {ks : List Int} (h : Dsk σ b m D) (hl : D.fs.length ≤ 2) (hk : KS σ v ks) (hb : ∀ k ∈ ks, -9223372036854775808 ≤ k ∧ k ≤ 9223372036854775807) (hv : ∀ c ∈ blkOf v, c ≠ b ∧ c ≠ m) :
    ACalls PG n_disk_Disk_Crash [.ptr b 0, v] σ fun _ σ' => Dsk σ' b m (crashD D ks) ∧ Mem.Only [b, m] σ σ' := by
  refine ok_disk_Disk_Crash fun live => ?_
  unfold F_disk_Disk_Crash
  obtain ⟨hbl, hml⟩ := h.lt live
  have hlt := hk.lt live
  refine To.go ?_
  refine ifF (p := False) id ?_
  refine callW_of (disk_Files (σ := σ.bump 6) (h.keep rfl rfl) hl) ?_
  rintro v1 σ1 ⟨own, s1⟩
  have s01 := s1.ob
  have n01 := s01.next
  have hnl : (numbs D).length = D.fs.length := by
    have : ∀ X : List Int, (srt2 X).length = X.length := by
      intro X
      match X with
      | [] => rfl
      | [_] => rfl
      | [x, y] => unfold srt2; dsimp only; split <;> rfl
      | _ :: _ :: _ :: _ => rfl
    unfold numbs
    rw [this, List.length_map]
  refine own.1.rd.len ?_
  obtain ⟨L, hL⟩ : ∃ L, numbs D = L := ⟨_, rfl⟩
  rw [hL] at own hnl
  rw [← hnl] at own ⊢
  unfold crashD
  rw [hL]
  have hks1 : KS σ1 v ks := by
    rcases hlt with h0 | h0
    · rcases hk with ⟨_, _, h1, _⟩ | hk
      · rw [h0] at h1; cases h1
      · exact .inr hk
    · exact hk.keep fun c hc => s01.get c (h0 c hc).1
  refine loop2 (fun (i : Nat) (u : AV) (y : Int) σ' => y = i ∧ i ≤ L.length ∧ Dsk σ' b m ((L.take i).foldl crash1 (D, ks)).1 ∧ KS σ' u ((L.take i).foldl crash1 (D, ks)).2 ∧ (∀ c ∈ blkOf u, c ∈ blkOf v) ∧ (∀ k ∈ ((L.take i).foldl crash1 (D, ks)).2, k ∈ ks) ∧ Mem.Only [b, m] σ1 σ') (fun i => L.length - i) 0 ⟨rfl, by omega, h.same s01 hbl hml, hks1, fun c hc => hc, fun k hk => hk, Mem.Only.refl _ _⟩ ?_
  rintro i u _ σ2 ⟨rfl, hi, hD, hks, hu, hkk, o2⟩
  unfold F_disk_Disk_Crash_l1
  have n2 := o2.next
  refine ifD (fun hlt' => ?_) (fun hge => ?_)
  · have hiL : i < L.length := by omega
    have hst := fold_step (s := (D, ks)) hiL
    obtain ⟨S, hS⟩ : ∃ S, (L.take i).foldl crash1 (D, ks) = S := ⟨_, rfl⟩
    obtain ⟨S', hS'⟩ : ∃ S', (L.take (i + 1)).foldl crash1 (D, ks) = S' := ⟨_, rfl⟩
    rw [hS, hS'] at hst
    rw [hS] at hD hks hkk
    obtain ⟨E, qs⟩ := S
    dsimp only at hD hks hkk
    have hown2 : ∀ c ∈ blkOf v1, σ2.get c = σ1.get c := fun c hc => by
      have := own.2 c hc
      simp only [Mem.next_bump] at this
      exact o2.get c (by omega) (by simp; constructor <;> omega)
    refine join1 (g1 := .v) (fun (w : AV) σ' => Dsk σ' b m S'.1 ∧ KS σ' w S'.2 ∧ (∀ c ∈ blkOf w, c ∈ blkOf v) ∧ (∀ k ∈ S'.2, k ∈ ks) ∧ Mem.Only [b, m] σ1 σ') ?_ ?_
    · obtain ⟨b1, rfl, g1, _⟩ : ∃ b1, v1 = .slice b1 0 L.length (.op 1) ∧ σ1.get b1 = some (.rw (ic L)) ∧ True := by
        rcases own.1 with ⟨_, h0, _⟩ | ⟨b1, h1, h2, _⟩
        · omega
        · exact ⟨b1, h1, h2, trivial⟩
      have g12 : σ2.get b1 = some (.rw (ic L)) := (hown2 b1 (by simp [blkOf])).trans g1
      refine rdK (σ := σ2.bump 4) (i := i) (x := L[i]) g12 hiL (by unfold ic; rw [List.getElem?_map, List.getElem?_eq_getElem hiL]; rfl) rfl ?_
      obtain ⟨f, hf⟩ : ∃ f, L[i] = f := ⟨_, rfl⟩
      rw [hf] at hst ⊢
      have ok := hD.ok
      have gb := hD.gb
      unfold Ds.cells at gb
      have hsyn := cur_syn ok f
      have htot := cur_tot (D := E) f
      have hsum : tot E.fs ≤ 16777216 := ok.sum
      have hb2 : b < σ2.next := by omega
      have hm2 : m < σ2.next := by omega
      refine To.go ?_
      refine ldrw (σ := σ2.bump 12) gb (v := .map m) rfl ?_
      refine look_val (σ := σ2.bump 12) hD.gm ?_
      rw [show (getF E.fs f).getD (⟨#[]⟩, 0) = curF E f from rfl]
      obtain ⟨x, hx⟩ : ∃ x, curF E f = x := ⟨_, rfl⟩
      rw [hx] at hsyn htot ⊢
      refine To.go ?_
      obtain ⟨tb, htb⟩ : ∃ tb, σ2.next + 10 = tb := ⟨_, rfl⟩
      rw [htb]
      unfold filA
      refine stn gS' (by simp) rfl rfl ?_
      obtain ⟨σ3, e3⟩ : ∃ σ3, σ3 = ((σ2.bump 12).put tb (some (.rw [.str ⟨#[]⟩, .int .i64 0]))).put tb (some (.rw (setAt [AV.str ⟨#[]⟩, .int .i64 0] 0 [.str x.1, .int .i64 x.2]))) := ⟨_, rfl⟩
      rw [← e3]
      have s23 : σ2.Same σ3 := by rw [e3]; exact Mem.Same.put (Mem.Same.put ((Mem.Same.refl σ2).bump _) (by omega) _) (by omega) _
      have g3 : σ3.get tb = some (.rw [.str x.1, .int .i64 x.2]) := by rw [e3, gS']; rfl
      have n3 : σ3.next = σ2.next + 12 := by rw [e3]; rfl
      clear e3
      have hD3 := hD.same s23 hb2 hm2
      have o3 : Mem.Only [b, m] σ1 σ3 := Only.then o2 (Only.of_same (l := [b, m]) s23) (fun _ h => h) (fun _ h => h)
      have hks3 : KS σ3 u qs := by
        rcases hks with ⟨kb, k, h1, rfl, hg⟩ | hks
        · refine .inl ⟨kb, k, h1, rfl, ?_⟩
          rw [s23.get kb ?_]; exact hg
          have hkv := hu kb (by simp [blkOf])
          rcases hlt with h0 | h0
          · have := hkk k (by rw [h1]; simp)
            rw [h0] at this; simp at this
          · have := (h0 kb hkv).1; omega
        · exact .inr hks
      refine To.go ?_
      refine ldrw (σ := σ3.bump 7) (K := fun a => castS a _) g3 (v := .str x.1) rfl ?_
      refine To.go ?_
      refine To.go ?_
      refine To.go ?_
      refine ldrw (σ := σ3.bump 7) (K := fun a => castI .i64 a _) g3 (v := .int .i64 x.2) rfl ?_
      refine To.go ?_
      refine iW_of (by omega) ?_
      refine ifD (fun h0 => ?_) (fun h0 => ?_)
      · have he : crash1 (E, qs) f = (E, qs) := if_pos (by show (curF E f).1.size = (curF E f).2; rw [hx]; omega)
        rw [he] at hst
        subst hst
        exact ⟨hD3.keep rfl rfl, hks3.keep fun _ _ => rfl, hu, hkk, o3.bump _⟩
      · have he : crash1 (E, qs) f = (putD E f (cutF x (qs.headD 0)), qs.tail) := by
          have : ¬ (curF (E, qs).1 f).1.size = (curF (E, qs).1 f).2 := by show ¬ (curF E f).1.size = (curF E f).2; rw [hx]; omega
          unfold crash1
          rw [if_neg this]
          show (putD E f (cutF (curF E f) (qs.headD 0)), qs.tail) = _
          rw [hx]
        rw [he] at hst
        subst hst
        have rest : ∀ (w : AV) (k : Int) (n : Nat), k = qs.headD 0 → (∀ c ∈ blkOf w, c ∈ blkOf v) → qs.tail = [] → (w = .nils ∨ ∃ b o c, w = .slice b o 0 c) → (-9223372036854775808 ≤ k ∧ k ≤ 9223372036854775807) →
            F_disk_Disk_Crash_j2 (.ptr b 0) σ2 (fun w σ' => Dsk σ' b m (putD E f (cutF x (qs.headD 0))) ∧ KS σ' w qs.tail ∧ (∀ c ∈ blkOf w, c ∈ blkOf v) ∧ (∀ k ∈ qs.tail, k ∈ ks) ∧ Mem.Only [b, m] σ1 σ') f ((x.1.size : Int) - x.2) w k (σ3.bump n) := by
          intro w k n hk hw ht hw2 hkb
          refine crash_one (x := x) (tb := tb) (hD3.keep rfl rfl) (by simp only [Mem.next_bump]; omega) (by simp only [Mem.next_bump]; omega) htb (by simp only [Mem.next_bump]; omega) ⟨by omega, by omega⟩ g3 hx (by omega) hkb ?_
          intro σ4 h4 o4
          rw [hk] at h4
          refine ⟨h4, .inr ⟨ht, hw2⟩, hw, by rw [ht]; simp, ?_⟩
          have n3' := o3.next
          have n4 := o4.next
          simp only [Mem.next_bump] at n4
          refine ⟨by omega, fun c hc hn => ?_⟩
          rw [o4.get c (by simp only [Mem.next_bump]; omega) ?_]
          · exact o3.get c hc hn
          · simp only [List.mem_cons, List.not_mem_nil, or_false, not_or] at hn ⊢
            exact ⟨hn.1, hn.2, by omega⟩
        rcases hks3 with ⟨kb, k, hqk, rfl, hg⟩ | ⟨hqk, hu2⟩
        · refine To.go ?_
          have hkb := hb k (hkk k (by rw [hqk]; simp))
          refine join2 (g1 := .v) (fun (w : AV) (z : Int) σ' => σ' = σ3.bump 20 ∧ z = k ∧ w = .slice kb 1 0 (.ex 0)) ?_ ?_
          · refine ifT (by decide) ?_
            refine rdK (σ := σ3.bump 20) (i := 0) (x := k) hg (by decide) rfl rfl ?_
            refine And.intro ⟨rfl, by decide, by decide, by decide⟩ ?_
            exact ⟨rfl, rfl, rfl⟩
          · rintro _ _ _ ⟨rfl, rfl, rfl⟩
            exact rest _ _ _ (by rw [hqk]; rfl) (fun c hc => hu c hc) (by rw [hqk]; rfl) (.inr ⟨_, _, _, rfl⟩) hkb
        · have hlen0 : ∀ {K : Int → Prop}, K 0 → slenW u K := by
            intro K hK
            rcases hu2 with rfl | ⟨_, _, _, rfl⟩ <;> exact hK
          refine hlen0 ?_
          refine join2 (g1 := .v) (fun (w : AV) (z : Int) σ' => σ' = σ3.bump 13 ∧ z = 0 ∧ w = u) ?_ ?_
          · refine ifF (by decide) ?_
            exact ⟨rfl, rfl, rfl⟩
          · rintro _ _ _ ⟨rfl, rfl, rfl⟩
            exact rest _ _ _ (by rw [hqk]; rfl) hu (by rw [hqk]; rfl) hu2 (by decide)
    · rintro w σ3 ⟨h3, h4, h5, h6, o3⟩
      unfold F_disk_Disk_Crash_j1
      refine iW_of (by omega) ?_
      exact again ⟨i + 1, ⟨by omega, by omega, by rw [hS']; exact h3.keep rfl rfl, by rw [hS']; exact h4.keep fun _ _ => rfl, h5, by rw [hS']; exact h6, o3.bump _⟩, by omega⟩
  · obtain rfl : i = L.length := by omega
    rw [List.take_length] at hD
    have gb := hD.gb
    unfold Ds.cells at gb
    have ok := hD.ok
    refine To.go ?_
    refine st1 (σ := σ2.bump 9) gb (by simp) rfl ?_
    refine To.go ?_
    refine st1 gS' (show 2 < 5 by decide) rfl ?_
    have ob : Mem.Only [b, m] σ σ2 := Only.then (Only.of_same (l := [b, m]) s01) o2 (fun _ h => h) (fun _ h => h)
    refine ⟨⟨?_, ?_, h.ne, ?_⟩, Mem.Only.put (Mem.Only.put (ob.bump _) (by simp) _) (by simp) _⟩
    · rw [gS']; rfl
    · rw [Mem.get_put_ne _ (fun e => h.ne e.symm), Mem.get_put_ne _ (fun e => h.ne e.symm)]; exact hD.gm
    · exact ⟨ok.born, ok.bnd, ok.knd, ⟨Int.le_refl _, by dsimp only; decide⟩, ok.stp, ok.lim, ok.syn, ok.sum⟩
end Go.Vit
