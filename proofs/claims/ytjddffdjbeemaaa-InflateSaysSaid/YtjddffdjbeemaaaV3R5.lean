/- The document's lengths of a dynamic block: a run is laid. -/
import Derived.Test.YtjddffdjbeemaaaV3R4
set_option linter.unusedVariables false
set_option linter.unusedSimpArgs false
set_option linter.unusedSimpArgs false
set_option maxRecDepth 20000
namespace Go.Vit
open Go.Proofs
section
variable {σ σ' : Mem} {o : List Nat} {x r p : Nat} {s : ByteArray} {most e : Int} {out : List UInt8} {v : AV} {β : Type} {D : Except Int (β × Nat)} {m : Rd β}
def LensI (σ3 : Mem) (o : List Nat) (x r : Nat) (s : ByteArray) (most : Int) (out : List UInt8) (v : AV) (sm : List Int) (all : Nat) (K2 : List Int → Rd β) (D : Except Int (β × Nat)) (f : Nat) (u : AV) (σ' : Mem) : Prop :=
  ∃ l, Own 1 σ3 σ' u (ic l) l.length ∧ l.length ≤ all ∧ Mem.Only o σ3 σ' ∧
    ((∃ q, rBind (rLens sm all f l) K2 s q = D ∧ all < f + l.length ∧ Rmv σ' o x r s q most out v 0) ∨ ∃ z q, z ≠ 0 ∧ D = .error z ∧ Rmv σ' o x r s q most out v z)
theorem lens_stop {σ4 : Mem} {u : AV} {c n z : Int} {q : Nat} {k : AV → Mem → Prop} (h : Rmv σ4 o x r s q most out v z) (hz : z ≠ 0) (hk : ∀ j, k u (σ4.bump j)) : loopF [.v, tI] (F_ref03_inflater_lens_l3 (.ptr x 0) c n k) u 0 σ4 := by
  refine loop2 (fun (_ : Unit) (u' : AV) (y : Int) σ' => u' = u ∧ y = 0 ∧ σ' = σ4) (fun _ => 0) () ⟨rfl, rfl, rfl⟩ ?_
  rintro _ _ _ _ ⟨rfl, rfl, rfl⟩
  unfold F_ref03_inflater_lens_l3
  refine ifD (fun _ => ?_) (fun _ => hk _)
  repeat (first | refine To.go ?_ | with_reducible refine And.intro (by first | omega | exact ⟨rfl, rfl⟩) ?_ | ((with_reducible apply opt); (· (first | with_reducible assumption | rfl))) | ((with_reducible apply ldrw); (· (first | with_reducible assumption | (simp (disch := omega) only [go_sem, *]; try rfl))); (· (first | with_reducible assumption | rfl))) | ((with_reducible apply ldro); (· (first | with_reducible assumption | (simp (disch := omega) only [go_sem, *]; try rfl))); (· (first | with_reducible assumption | rfl))) | ((with_reducible apply st1); (· (first | with_reducible assumption | (simp (disch := omega) only [go_sem, *]; try rfl))); (· simp); (· rfl)) | with_reducible refine ifT rfl ?_ | with_reducible refine ifF (not_not_intro rfl) ?_ | with_reducible refine ifT (by omega) ?_ | with_reducible refine ifF (by omega) ?_)
  refine ldrw h.gx (v := .int .i64 z) rfl ?_
  repeat (first | refine To.go ?_ | with_reducible refine And.intro (by first | omega | exact ⟨rfl, rfl⟩) ?_ | ((with_reducible apply opt); (· (first | with_reducible assumption | rfl))) | ((with_reducible apply ldrw); (· (first | with_reducible assumption | (simp (disch := omega) only [go_sem, *]; try rfl))); (· (first | with_reducible assumption | rfl))) | ((with_reducible apply ldro); (· (first | with_reducible assumption | (simp (disch := omega) only [go_sem, *]; try rfl))); (· (first | with_reducible assumption | rfl))) | ((with_reducible apply st1); (· (first | with_reducible assumption | (simp (disch := omega) only [go_sem, *]; try rfl))); (· simp); (· rfl)) | with_reducible refine ifT rfl ?_ | with_reducible refine ifF (not_not_intro rfl) ?_ | with_reducible refine ifT (by omega) ?_ | with_reducible refine ifF (by omega) ?_)
  exact hk _
theorem lens_j2 {σ3 σ4 : Mem} {u : AV} {sm l : List Int} {all n f k7 k3 : Nat} {c : Int} {K2 : List Int → Rd β} {next34 : AV → Mem → Prop} (hall : k3 + k7 = all) (hall2 : all ≤ 400) (own : Own 1 σ3 σ4 u (ic l) l.length) (hl : l.length ≤ all) (hn : 1 ≤ n ∧ n ≤ 200) (ho : ∀ b ∈ o, b < σ3.next) (o4 : Mem.Only o σ3 σ4)
    (hf : all ≤ f + l.length)
    (h : Rst σ4 o x r s most out v (rBind (if all < l.length + n then rFail 12 else rLens sm all f (l ++ List.replicate n c)) K2) D)
    (hk : ∀ u' σ', LensI σ3 o x r s most out v sm all K2 D f u' σ' → next34 u' σ') : F_ref03_inflater_lens_j2 (.ptr x 0) (k3 : Nat) (k7 : Nat) next34 u c (n : Nat) σ4 := by
  unfold F_ref03_inflater_lens_j2
  have hdead : ∀ (σ5 : Mem) (z : Int) (q : Nat), z ≠ 0 → D = .error z → Rmv σ5 o x r s q most out v z → σ4.next ≤ σ5.next → (∀ b, b < σ4.next → b ≠ x → σ5.get b = σ4.get b) → next34 u σ5 := by
    intro σ5 z q hz hD h5 n5 g5
    have hx := h5.lt
    have hxo : x ∈ o := by rw [h5.eqo]; simp
    refine hk u σ5 ⟨l, ⟨own.1.keep fun b hb => g5 b (own.2 b hb).2 fun e => ?_, fun b hb => ?_⟩, hl, ⟨?_, fun b hb hn => ?_⟩, .inr ⟨z, q, hz, hD, h5⟩⟩
    · have := ho x hxo; have := own.2 b hb; omega
    · have := own.2 b hb; omega
    · have := o4.next; omega
    · rw [g5 b (by have := o4.next; omega) (by rintro rfl; exact hn hxo)]
      exact o4.get b hb hn
  rcases h with ⟨q, hD, h⟩ | ⟨z, q, hz, hD, h⟩
  · repeat (first | refine To.go ?_ | with_reducible refine And.intro (by first | omega | exact ⟨rfl, rfl⟩) ?_ | ((with_reducible apply opt); (· (first | with_reducible assumption | rfl))) | ((with_reducible apply ldrw); (· (first | with_reducible assumption | (simp (disch := omega) only [go_sem, *]; try rfl))); (· (first | with_reducible assumption | rfl))) | ((with_reducible apply ldro); (· (first | with_reducible assumption | (simp (disch := omega) only [go_sem, *]; try rfl))); (· (first | with_reducible assumption | rfl))) | ((with_reducible apply st1); (· (first | with_reducible assumption | (simp (disch := omega) only [go_sem, *]; try rfl))); (· simp); (· rfl)) | with_reducible refine ifT rfl ?_ | with_reducible refine ifF (not_not_intro rfl) ?_ | with_reducible refine ifT (by omega) ?_ | with_reducible refine ifF (by omega) ?_)
    refine ldrw h.gx (v := .int .i64 0) rfl ?_
    refine To.go ?_
    refine ifT rfl ?_
    refine own.1.rdO.len ?_
    refine iW_of (by omega) ?_
    refine iW_of (by omega) ?_
    refine joinI ?_
    by_cases hgt : all < l.length + n
    · rw [if_pos hgt] at hD
      refine ifT (by omega) ?_
      refine To.go ?_
      refine st1 h.gx (by simp) rfl ?_
      have hs := (h.bump 19).set 12
      unfold F_ref03_inflater_lens_j3
      refine joinI ?_
      refine lens_stop (hs.1.bump 1) (by decide) fun j => ?_
      unfold F_ref03_inflater_lens_j4
      refine hdead _ 12 q (by decide) hD.symm ((hs.1.bump 1).bump j) ?_ ?_
      · simp only [Mem.next_bump, Mem.next_put]; omega
      · intro b hb hbx
        rw [Mem.get_bump, Mem.get_bump]
        show (Mem.put _ _ _).get b = _
        rw [Mem.get_put_ne _ hbx]; rfl
    · rw [if_neg hgt] at hD
      refine ifF (by omega) ?_
      unfold F_ref03_inflater_lens_j3
      refine joinI ?_
      refine loop2 (fun (i : Nat) (u' : AV) (y : Int) σ' => y = i ∧ i ≤ n ∧ Own 1 σ3 σ' u' (ic (l ++ List.replicate i c)) (l.length + i) ∧ Rmv σ' o x r s q most out v 0 ∧ Mem.Only o σ3 σ') (fun i => n - i) 0 ⟨rfl, by omega, ?_, (h.bump _).bump _, (o4.bump _).bump _⟩ ?_
      · rw [List.replicate_zero, List.append_nil, Nat.add_zero]
        exact ⟨own.1.keep fun _ _ => rfl, fun b hb => by have := own.2 b hb; simp only [Mem.next_bump]; omega⟩
      rintro i u' _ σ6 ⟨rfl, hi, own6, h6, o6⟩
      unfold F_ref03_inflater_lens_l3
      refine ifD (fun hlt => ?_) (fun hge => ?_)
      · repeat (first | refine To.go ?_ | with_reducible refine And.intro (by first | omega | exact ⟨rfl, rfl⟩) ?_ | ((with_reducible apply opt); (· (first | with_reducible assumption | rfl))) | ((with_reducible apply ldrw); (· (first | with_reducible assumption | (simp (disch := omega) only [go_sem, *]; try rfl))); (· (first | with_reducible assumption | rfl))) | ((with_reducible apply ldro); (· (first | with_reducible assumption | (simp (disch := omega) only [go_sem, *]; try rfl))); (· (first | with_reducible assumption | rfl))) | ((with_reducible apply st1); (· (first | with_reducible assumption | (simp (disch := omega) only [go_sem, *]; try rfl))); (· simp); (· rfl)) | with_reducible refine ifT rfl ?_ | with_reducible refine ifF (not_not_intro rfl) ?_ | with_reducible refine ifT (by omega) ?_ | with_reducible refine ifF (by omega) ?_)
        refine ldrw h6.gx (v := .int .i64 0) rfl ?_
        refine To.go ?_
        refine ifT rfl ?_
        refine To.go ?_
        refine own6.pushO (os := o) (m := 1) (c := ic [c]) o6 rfl (by omega) (by omega) (by omega) rfl rfl (ic_one _) (by omega) ?_ (by simp only [Mem.next_put, Mem.next_bump]; omega)
        intro u7 σ7 own7 o7 hn7 o67 hb7
        rw [← ic_append, List.append_assoc, ← List.replicate_succ'] at own7
        refine iW_of (by omega) ?_
        have n7 := o7.next
        refine again ⟨i + 1, ⟨by omega, by omega, ⟨own7.1.keep fun _ _ => rfl, fun b hb => by have := own7.2 b hb; simp only [Mem.next_bump]; omega⟩, h6.keep (fun b hb => ?_) ?_, o7.bump _⟩, by omega⟩
        · rw [Mem.get_bump, o67.get b (h6.lt b hb) fun hm => by have := own6.2 b hm; have := ho b hb; omega]
        · have := o67.next
          simp only [Mem.next_bump]; omega
      · obtain rfl : i = n := by omega
        unfold F_ref03_inflater_lens_j4
        refine hk u' _ ⟨l ++ List.replicate i c, ⟨?_, fun b hb => by have := own6.2 b hb; simp only [Mem.next_bump]; omega⟩, by simp; omega, o6.bump _, .inl ⟨q, hD, by simp; omega, h6.bump _⟩⟩
        rw [List.length_append, List.length_replicate]
        exact own6.1.keep fun _ _ => rfl
  · repeat (first | refine To.go ?_ | with_reducible refine And.intro (by first | omega | exact ⟨rfl, rfl⟩) ?_ | ((with_reducible apply opt); (· (first | with_reducible assumption | rfl))) | ((with_reducible apply ldrw); (· (first | with_reducible assumption | (simp (disch := omega) only [go_sem, *]; try rfl))); (· (first | with_reducible assumption | rfl))) | ((with_reducible apply ldro); (· (first | with_reducible assumption | (simp (disch := omega) only [go_sem, *]; try rfl))); (· (first | with_reducible assumption | rfl))) | ((with_reducible apply st1); (· (first | with_reducible assumption | (simp (disch := omega) only [go_sem, *]; try rfl))); (· simp); (· rfl)) | with_reducible refine ifT rfl ?_ | with_reducible refine ifF (not_not_intro rfl) ?_ | with_reducible refine ifT (by omega) ?_ | with_reducible refine ifF (by omega) ?_)
    refine ldrw h.gx (v := .int .i64 z) rfl ?_
    refine To.go ?_
    refine ifF hz ?_
    refine joinI ?_
    unfold F_ref03_inflater_lens_j5
    refine joinI ?_
    refine lens_stop ((h.bump 15).bump 1) hz fun j => ?_
    unfold F_ref03_inflater_lens_j6
    refine hdead _ z q hz hD (((h.bump 15).bump 1).bump j) (by simp only [Mem.next_bump]; omega) fun b hb _ => rfl
end
end Go.Vit
