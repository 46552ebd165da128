/- The stream: numbers, small codes, runs, lengths and distances. -/
import Derived.Test.YtjddffdjbeemaaaV3W2
set_option linter.unusedVariables false
set_option linter.unusedSimpArgs false
set_option linter.unusedSimpArgs false
set_option maxRecDepth 20000
namespace Go.Vit
open Go.Proofs
section
variable {σ σ' : Mem} {o : List Nat} {x r p : Nat} {s : ByteArray} {most : Int} {out : List UInt8} {v : AV}
theorem sym_lt {L : List Int} {s : ByteArray} : ∀ (k n c p : Nat), (dec L s k n c p).2.1 = 0 → ∃ i : Nat, (dec L s k n c p).1 = i ∧ i < L.length
  | 0, _, _, _, h => by unfold dec at h; exact absurd h (by simp)
  | k + 1, n, c, p, h => by
    unfold dec at h ⊢
    by_cases h1 : 8 * s.size ≤ p
    · rw [if_pos h1] at h; exact absurd h (by simp)
    · rw [if_neg h1] at h ⊢
      cases e : fnd L n (2 * c + bitAt s p) with
      | some i =>
        refine ⟨i, rfl, ?_⟩
        unfold fnd at e
        have := List.mem_of_find?_eq_some e
        exact List.mem_range.1 this
      | none =>
        rw [e] at h
        exact sym_lt k _ _ _ h
theorem next_lt {L : List Int} {q : Nat} {c : Int} (h : rNext L s p = .ok (c, q)) : ∃ i : Nat, c = i ∧ i < L.length := by
  unfold rNext at h
  split at h
  · rename_i h0
    injection h with h
    rw [← (Prod.mk.inj h).1]
    exact sym_lt _ _ _ _ h0
  · exact absurd h (by simp)
theorem bits_lt {n a q : Nat} (h : rBits n s p = .ok (a, q)) : a < 2 ^ n := by
  unfold rBits at h
  split at h
  · exact absurd h (by simp)
  · injection h with h
    rw [← (Prod.mk.inj h).1]
    exact val_lt _ _ _
theorem sev_get : ∀ (ws : List Nat) (acc : List Int) {p q : Nat} {l : List Int}, rSev ws acc s p = .ok (l, q) → ∃ vs : List Nat, l = acc ++ vs.map (fun (n : Nat) => (n : Int)) ∧ vs.length = ws.length ∧ ∀ i (h : i < ws.length) (h' : i < vs.length), vs[i] < 2 ^ ws[i]
  | [], acc, p, q, l, h => by
    unfold rSev rPure at h
    injection h with h
    exact ⟨[], by rw [← (Prod.mk.inj h).1]; simp, rfl, fun i h => absurd h (by simp)⟩
  | w :: ws, acc, p, q, l, h => by
    unfold rSev at h
    cases e : rBits w s p with
    | error z => rw [rBind_er e] at h; exact absurd h (by simp)
    | ok y =>
      obtain ⟨a, q1⟩ := y
      rw [rBind_ok e] at h
      obtain ⟨vs, h1, h2, h3⟩ := sev_get ws _ h
      refine ⟨a :: vs, by rw [h1]; simp, by simp [h2], fun i hi hi' => ?_⟩
      cases i with
      | zero => exact bits_lt e
      | succ i => exact h3 i (by simpa using hi) (by simpa using hi')
theorem inflate_several {a : AV} {ws : List Nat} (h : Smv σ o x r s p most out v) (ha : RdO 1 σ a (ic (ws.map fun (n : Nat) => (n : Int))) ws.length) (hao : ∀ b ∈ blkOf a, b ∉ o ∧ b < σ.next) (hw : ∀ w ∈ ws, w ≤ 24) (hl : ws.length ≤ 10) :
    ACalls PG n_inflate_stream_several [.ptr x 0, a] σ fun w σ' => Grow o o σ σ' ∧ match rSev ws [] s p with
    | .ok (l, q) => ∃ c, w = .tup [c, .int .i64 0] ∧ RdO 1 σ' c (ic l) l.length ∧ (∀ b ∈ blkOf c, σ.next ≤ b ∧ b < σ'.next) ∧ Smv σ' o x r s q most out v
    | .error e => ∃ c, w = .tup [c, .int .i64 e] := by
  refine ok_inflate_stream_several fun live => ?_
  unfold F_inflate_stream_several
  refine ha.len ?_
  obtain ⟨D, hD⟩ : ∃ D, rSev ws [] s p = D := ⟨_, rfl⟩
  rw [hD]
  refine loop2 (fun (i : Nat) (u : AV) (y : Int) σ' => y = i ∧ i ≤ ws.length ∧ ∃ acc q, rSev (ws.drop i) acc s q = D ∧ acc.length = i ∧ Own 1 σ σ' u (ic acc) acc.length ∧ Smv σ' o x r s q most out v ∧ Mem.Only o σ σ') (fun i => ws.length - i) 0 ⟨rfl, by omega, [], p, hD, rfl, Own.nil 1 _ _, h.bump _, ⟨by simp only [Mem.next_bump]; omega, fun _ _ _ => rfl⟩⟩ ?_
  rintro i u _ σ1 ⟨rfl, hi, acc, q, hd, hacc, own, h1, o1⟩
  unfold F_inflate_stream_several_l1
  have n1 := o1.next
  have gr1 : Grow o o σ σ1 := ⟨o1, fun b hb => .inl hb, h1.lt⟩
  refine ifD (fun hlt => ?_) (fun hge => ?_)
  · have hil : i < ws.length := by omega
    obtain ⟨ba, baz, ca, rfl, hget⟩ := (ha.keep fun b hb => o1.get b (hao b hb).2 (hao b hb).1).iat (L := ws.map fun (n : Nat) => (n : Int)) (i := i) (x := (ws[i] : Nat)) (by rw [List.getElem?_map, List.getElem?_eq_getElem hil]; rfl) hil (by simpa using hil)
    have hw' := hw _ (List.getElem_mem hil)
    rw [List.drop_eq_getElem_cons hil] at hd
    unfold rSev at hd
    obtain ⟨wi, hwi⟩ : ∃ n, ws[i] = n := ⟨_, rfl⟩
    rw [hwi] at hd hget hw'
    refine To.go ?_
    refine And.intro hil ?_
    refine To.go ?_
    refine hget _ ?_
    refine To.go ?_
    refine To.go ?_
    refine ldrw h1.gx (v := .ptr r 0) rfl ?_
    refine callW_of (Smv.bits (n := wi) (h1.bump 15) hw') ?_
    rintro w σ2 ⟨g2', hw2⟩
    have n12 := g2'.only.next
    simp only [Mem.next_bump] at n12
    have own2 := own.only g2'.ob.only fun b hb hm => by have := own.2 b hb; have := h.lt b hm; omega
    have g2 := gr1.trans g2'.ob
    have o2 := g2.only
    cases e : rBits wi s q with
    | error z =>
      rw [e] at hw2
      subst hw2
      have hz := Fr.ne (.bits wi) h1.le e
      rw [rBind_er e] at hd
      repeat (first | refine To.go ?_ | with_reducible refine And.intro (by first | omega | exact ⟨rfl, rfl⟩) ?_ | ((with_reducible apply opt); (· (first | with_reducible assumption | rfl))) | ((with_reducible apply ldrw); (· (first | with_reducible assumption | (simp (disch := omega) only [go_sem, *]; try rfl))); (· (first | with_reducible assumption | rfl))) | ((with_reducible apply ldro); (· (first | with_reducible assumption | (simp (disch := omega) only [go_sem, *]; try rfl))); (· (first | with_reducible assumption | rfl))) | ((with_reducible apply st1); (· (first | with_reducible assumption | (simp (disch := omega) only [go_sem, *]; try rfl))); (· simp); (· rfl)) | with_reducible refine ifT rfl ?_ | with_reducible refine ifF (not_not_intro rfl) ?_ | with_reducible refine ifT (by omega) ?_ | with_reducible refine ifF (by omega) ?_)
      subst hd
      exact ⟨g2.bump _, _, rfl⟩
    | ok y =>
      obtain ⟨a, q2⟩ := y
      rw [e] at hw2
      obtain ⟨rfl, h2⟩ := hw2
      rw [rBind_ok e] at hd
      repeat (first | refine To.go ?_ | with_reducible refine And.intro (by first | omega | exact ⟨rfl, rfl⟩) ?_ | ((with_reducible apply opt); (· (first | with_reducible assumption | rfl))) | ((with_reducible apply ldrw); (· (first | with_reducible assumption | (simp (disch := omega) only [go_sem, *]; try rfl))); (· (first | with_reducible assumption | rfl))) | ((with_reducible apply ldro); (· (first | with_reducible assumption | (simp (disch := omega) only [go_sem, *]; try rfl))); (· (first | with_reducible assumption | rfl))) | ((with_reducible apply st1); (· (first | with_reducible assumption | (simp (disch := omega) only [go_sem, *]; try rfl))); (· simp); (· rfl)) | with_reducible refine ifT rfl ?_ | with_reducible refine ifF (not_not_intro rfl) ?_ | with_reducible refine ifT (by omega) ?_ | with_reducible refine ifF (by omega) ?_)
      refine own2.pushO (os := o) (m := 1) (c := ic [(a : Int)]) o2 rfl (by omega) (by omega) (by omega) rfl rfl (ic_one _) (by omega) ?_ (by simp only [Mem.next_put, Mem.next_bump]; omega)
      intro u' σ3 own3 o3 hn3 o23 hb3
      rw [← ic_append] at own3
      refine iW_of (by omega) ?_
      have n3 := o3.next
      refine again ⟨i + 1, ⟨by omega, by omega, acc ++ [(a : Int)], q2, hd, by simp; omega, ?_, h2.keep (fun b hb => ?_) ?_, o3.bump _⟩, by omega⟩
      · rw [List.length_append]
        exact ⟨own3.1.keep fun _ _ => rfl, fun b hb => by have := own3.2 b hb; simp only [Mem.next_bump]; omega⟩
      · have := h.lt b hb
        rw [Mem.get_bump, o23.get b (by omega) fun hm => by have := own2.2 b hm; omega]
      · have := o23.next
        simp only [Mem.next_bump]; omega
  · obtain rfl : i = ws.length := by omega
    rw [List.drop_length] at hd
    unfold rSev rPure at hd
    subst hd
    exact ⟨gr1.bump _, u, rfl, own.1.rdO.keep fun _ _ => rfl, fun b hb => by have := own.2 b hb; simp only [Mem.next_bump]; omega, h1.bump _⟩
end
end Go.Vit
