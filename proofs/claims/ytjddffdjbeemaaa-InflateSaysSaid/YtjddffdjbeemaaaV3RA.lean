/- The document's answer. -/
import Derived.Test.YtjddffdjbeemaaaV3R9
set_option linter.unusedVariables false
set_option linter.unusedSimpArgs false
set_option linter.unusedSimpArgs false
set_option maxRecDepth 20000
namespace Go.Vit
open Go.Proofs
section
variable {σ σ' : Mem} {o : List Nat} {x r p q : Nat} {s : ByteArray} {most e : Int} {out : List UInt8} {v : AV} {β : Type} {D : Except Int (β × Nat)} {m : Rd β}
theorem rBind_rPure {α : Type} (m : Rd α) (s : ByteArray) (q : Nat) : rBind m rPure s q = m s q := by
  unfold rBind
  cases m s q with
  | error z => rfl
  | ok y => rfl
theorem rtable_al {L : List Int} {a : AV} (h : Rmv σ o x r s q most out v 0) (ha : RdO 1 σ a (ic L) L.length) (hl : L.length ≤ 2 ^ 44) :
    ACalls PG n_ref03_inflater_table [.ptr x 0, a] σ fun w σ' => Grow o o σ σ' ∧ (∀ b, b < σ.next → b ≠ x → σ'.get b = σ.get b) ∧
    ((chk L = 0 ∧ ∃ t, w = .ptr t 0 ∧ lens L ∧ TabR σ.next σ'.next L σ' t ∧ Rmv σ' o x r s q most out v 0) ∨ chk L ≠ 0 ∧ ∃ q, Rmv σ' o x r s q most out v (chk L)) := by
  refine (rtable (L := L) (k := rPure) (D := rBind (rTable L) rPure s q) (.inl ⟨q, rfl, h⟩) (fun _ => ha) hl).mono ?_
  rintro w σ' ⟨g, _, kk, h'⟩
  refine ⟨g, kk, ?_⟩
  rw [rBind_rPure] at h'
  rcases h' with ⟨t, rfl, hc, hL, hT, q', h1, h2⟩ | ⟨z, q', hz, h1, h2⟩
  · refine .inl ⟨hc, t, rfl, hL, hT, ?_⟩
    unfold rTable at h1
    rw [if_neg (by simpa using hc)] at h1
    injection h1 with h1
    obtain ⟨_, rfl⟩ := Prod.mk.inj h1
    exact h2
  · right
    unfold rTable at h1
    by_cases hc : chk L ≠ 0
    · rw [if_pos hc] at h1
      injection h1 with h1
      subst h1
      exact ⟨hc, q', h2⟩
    · rw [if_neg hc] at h1
      exact absurd h1 (by simp [rPure])
theorem SymQ.cases {m : Rd (List UInt8)} (h : SymQ σ o x r s most rPure (m s q) σ') : ∃ o' v' out', Grow o o' σ σ' ∧ ((∃ q', m s q = .ok (out', q') ∧ Rmv σ' o' x r s q' most out' v' 0) ∨ ∃ z q', z ≠ 0 ∧ m s q = .error z ∧ Rmv σ' o' x r s q' most out' v' z) := by
  obtain ⟨o', v', out', g, h⟩ := h
  refine ⟨o', v', out', g, ?_⟩
  rcases h with ⟨q', h1, h2⟩ | ⟨z, q', hz, h1, h2⟩
  · exact .inl ⟨q', h1.symm, h2⟩
  · exact .inr ⟨z, q', hz, h1, h2⟩
theorem ref03_symbols {L Dd : List Int} {F : Nat} {a b : AV} (h : Rmv σ o x r s q most out v 0) (ha : RdO 1 σ a (ic L) L.length) (hb : RdO 1 σ b (ic Dd) Dd.length) (hbl : ∀ z ∈ blkOf b, z < σ.next ∧ z ≠ x) (hLl : L.length ≤ 2 ^ 20) (hDl : Dd.length ≤ 2 ^ 20) (hF : 8 * s.size < F + q) :
    ACalls PG n_ref03_inflater_symbols [.ptr x 0, a, b] σ fun _ σ' => SymQ σ o x r s most rPure (rCodes most F L Dd out s q) σ' := by
  refine ok_ref03_inflater_symbols fun live => ?_
  unfold F_ref03_inflater_symbols
  obtain ⟨D, hD⟩ : ∃ D, rCodes most F L Dd out s q = D := ⟨_, rfl⟩
  rw [hD]
  unfold rCodes at hD
  have stop : ∀ (t t2 : AV) (z : Int) (q' : Nat) (σ1 : Mem), z ≠ 0 → D = .error z → Grow o o σ σ1 → Rmv σ1 o x r s q' most out v z → loopF [] (F_ref03_inflater_symbols_l1 (.ptr x 0) (fun _ σ' => SymQ σ o x r s most rPure D σ') t t2) σ1 := by
    intro t t2 z q' σ1 hz hD g h
    refine loop0 (fun (_ : Unit) σ' => σ' = σ1) (fun _ => 0) () rfl ?_
    rintro _ _ rfl
    unfold F_ref03_inflater_symbols_l1
    repeat (first | refine To.go ?_ | with_reducible refine And.intro (by first | omega | exact ⟨rfl, rfl⟩) ?_ | ((with_reducible apply opt); (· (first | with_reducible assumption | rfl))) | ((with_reducible apply ldrw); (· (first | with_reducible assumption | (simp (disch := omega) only [go_sem, *]; try rfl))); (· (first | with_reducible assumption | rfl))) | ((with_reducible apply ldro); (· (first | with_reducible assumption | (simp (disch := omega) only [go_sem, *]; try rfl))); (· (first | with_reducible assumption | rfl))) | ((with_reducible apply st1); (· (first | with_reducible assumption | (simp (disch := omega) only [go_sem, *]; try rfl))); (· simp); (· rfl)) | with_reducible refine ifT rfl ?_ | with_reducible refine ifF (not_not_intro rfl) ?_ | with_reducible refine ifT (by omega) ?_ | with_reducible refine ifF (by omega) ?_)
    refine ldrw h.gx (v := .int .i64 z) rfl ?_
    refine To.go ?_
    refine ifF hz ?_
    exact SymQ.dead (g.bump _) hz hD (h.bump _)
  refine callW_of (rtable_al (h.bump 4) (ha.keep fun _ _ => rfl) (by omega)) ?_
  rintro _ σ1 ⟨g1, k1, h1⟩
  have n1 := g1.only.next
  simp only [Mem.next_bump] at n1 k1 h1
  replace g1 := g1.ob
  rcases h1 with ⟨hc, t, rfl, hL, hT, h1⟩ | ⟨hc, q', h1⟩
  · rw [rBind_ok (a := ()) (q := q) (by unfold rTable; rw [if_neg (by simpa using hc)]; rfl)] at hD
    refine callW_of (rtable_al (h1.bump 4) (hb.keep fun z hz => ?_) (by omega)) ?_
    · rw [Mem.get_bump, k1 z (by have := (hbl z hz).1; omega) (hbl z hz).2]; rfl
    rintro _ σ2 ⟨g2, k2, h2⟩
    have n2 := g2.only.next
    simp only [Mem.next_bump] at n2 k2 h2
    replace g2 := g1.trans g2.ob
    have hxo := h.lt x (by rw [h.eqo]; simp)
    rcases h2 with ⟨hc2, t2, rfl, hL2, hT2, h2⟩ | ⟨hc2, q', h2⟩
    · rw [rBind_ok (a := ()) (q := q) (by unfold rTable; rw [if_neg (by simpa using hc2)]; rfl)] at hD
      have hT1 : TabR (σ.next + 4) σ1.next L σ2 t := hT.keep fun b hb hb' => by rw [k2 b (by omega) (by omega)]; rfl
      refine loop0 (fun (f : Nat) σ' => ∃ o' v' out' q', rSyms most L Dd f out' s q' = D ∧ 8 * s.size < f + q' ∧ Grow o o' σ2 σ' ∧ Rmv σ' o' x r s q' most out' v' 0) (fun f => f) F ⟨o, v, out, q, hD, hF, h2.g0, h2⟩ ?_
      clear hD h1
      rintro f σ3 ⟨o3, v3, out3, q3, hD, hF, g3, h3⟩
      have hle := h3.le
      have n3 := g3.only.next
      obtain ⟨f, rfl⟩ : ∃ f', f = f' + 1 := ⟨f - 1, by omega⟩
      have hnew : ∀ b ∈ o3, b < σ.next ∨ σ2.next ≤ b := fun b hb => (g3.new b hb).imp (fun hm => h.lt b hm) id
      have hno : ∀ b ∈ o, b < σ.next := h.lt
      refine syms_l1 (lo := σ.next + 4) (hi := σ1.next) (lo2 := σ1.next + 4) (hi2 := σ2.next) (k := rPure) (D := D) h3 hc hLl (hT1.keep fun b h1 h2 => g3.only.get b (by omega) fun hm => by have := hno b hm; omega) (by omega) (fun b hb => by have := hnew b hb; omega) hc2 (hT2.keep fun b h1 h2 => g3.only.get b (by omega) fun hm => by have := hno b hm; omega) (by omega) (fun b hb => by have := hnew b hb; omega) (by rw [rBind_rPure]; exact hD) ?_ ?_
      · intro σ' hq
        exact SymQ.of (g2.trans g3) hq
      · intro o' v' out' σ' q' hq' g' hD' h'
        rw [rBind_rPure] at hD'
        exact again ⟨f, ⟨o', v', out', q', hD', by omega, g3.trans g', h'⟩, by omega⟩
    · rw [rBind_er (e := chk Dd) (by unfold rTable; rw [if_pos hc2]; rfl)] at hD
      exact stop _ _ _ _ _ hc2 hD.symm g2 h2
  · rw [rBind_er (e := chk L) (by unfold rTable; rw [if_pos hc]; rfl)] at hD
    refine callW_of (rtable_dead (h1.bump 4) hc) ?_
    rintro _ σ2 ⟨rfl, s2⟩
    exact stop _ _ _ _ _ hc hD.symm (g1.then s2.ob) (h1.same s2.ob)
end
end Go.Vit
