/- Symbols of tokens are laid, all of them. -/
import Derived.Test.YtcliekhikcaoiaaV5X5
import Derived.Test.YtcliekhikcaoiaaV5Z
set_option linter.unusedVariables false
set_option linter.unusedSimpArgs false
set_option linter.unusedSimpArgs false
set_option maxRecDepth 20000
namespace Go.Vit
open Go.Proofs
theorem OwnS.rdK {σ σ' : Mem} {v : AV} {l : List Tok} (h : OwnS 3 σ v (tkl l) l.length) (hb : ∀ b ∈ blkOf v, σ'.get b = σ.get b) {i : Nat} (hi : i < l.length) {j : Int} (hj : j = (i : Nat)) {K : AV → Prop} (hk : K (.agg (tokC l[i]))) : idxW 3 v j fun p => ldnW 3 σ' p K := by
  subst hj
  obtain ⟨b, rfl, hg, _⟩ := h.sl (by omega)
  refine And.intro (show (0 : Int) ≤ (i : Nat) ∧ ((i : Nat) : Int) < (l.length : Nat) by omega) ?_
  rw [Int.toNat_natCast, Nat.zero_add]
  exact ldn_tok ⟨_, (hb b (by simp [blkOf])).trans hg, rfl⟩ hi hk
theorem fold_two {L D : List Int} (hL : lens L) (hD : lens D) : ∀ {l : List Tok} (p : Nat × Nat), (∀ t ∈ l, okT t) → (l.foldl (layTok L D) p).2 ≤ p.2 + 48 * l.length
  | [], p, _ => by simp
  | t :: l, p, h => by
    have h1 := layTok_two hL hD p (h t (by simp))
    have h2 := fold_two hL hD (l := l) (layTok L D p t) fun x hx => h x (by simp [hx])
    rw [List.foldl_cons, List.length_cons]; omega
theorem fold_succ {L D : List Int} {p : Nat × Nat} {l : List Tok} {i : Nat} (h : i < l.length) : (l.take (i + 1)).foldl (layTok L D) p = layTok L D ((l.take i).foldl (layTok L D) p) l[i] := by
  rw [List.take_succ_eq_append_getElem h, List.foldl_append]; rfl
theorem deflate_symbols {lo hi lo' hi' t t' w : Nat} {o : List Nat} {L D : List Int} {p : Nat × Nat} {a : AV} {l : List Tok} {σ : Mem} (hL : lens L) (hD : lens D) (ht : TabB lo hi L σ t) (hhi : hi ≤ σ.next) (ho : ∀ b ∈ o, b < lo ∨ hi ≤ b)
    (ht' : TabB lo' hi' D σ t') (hhi' : hi' ≤ σ.next) (ho' : ∀ b ∈ o, b < lo' ∨ hi' ≤ b) (h : WrP σ w o p.1 p.2) (hN : p.2 ≤ 2 ^ 37)
    (ha : OwnS 3 σ a (tkl l) l.length) (hao : ∀ b ∈ blkOf a, b ∉ o) (hok : ∀ t ∈ l, okT t) (hl : l.length ≤ 2 ^ 20) :
    ACalls PG n_deflate_symbols [.ptr w 0, a, .ptr t 0, .ptr t' 0] σ fun _ σ' => ∃ o', WrP σ' w o' (layToks L D p l).1 (layToks L D p l).2 ∧ Grow o o' σ σ' := by
  refine ok_deflate_symbols fun live => ?_
  unfold F_deflate_symbols
  have hol := h.2.lt live
  have hla := ha.lt live
  refine boxW_one rfl ?_
  refine To.go ?_
  obtain ⟨cb, hcb⟩ : ∃ cb, σ.next = cb := ⟨_, rfl⟩
  obtain ⟨σb, hσb⟩ : ∃ σb, σb = ((σ.bump 1).put cb (some (.rw [.ptr w 0]))).bump 5 := ⟨_, rfl⟩
  rw [hcb, show (AV.ptr w 0).cells = [.ptr w 0] from rfl, ← hσb]
  have sb : σ.Same σb := by rw [hσb]; repeat (with_reducible first | assumption | exact Mem.Only.refl _ _ | exact Mem.Same.refl _ | refine Mem.Only.bump ?_ _ | refine Mem.Only.put ?_ (by simp) _ | refine Mem.Only.put ?_ (.inr (by first | omega | (simp only [Mem.next_bump, Mem.next_put]; omega))) _ | refine Mem.Same.bump ?_ _ | refine Mem.Same.put ?_ (by first | omega | (simp only [Mem.next_bump, Mem.next_put]; omega)) _)
  have nb : σb.next = σ.next + 6 := by rw [hσb]; rfl
  have gb : σb.get cb = some (.rw [.ptr w 0]) := by rw [hσb]; exact gB gS'
  have hcl : cb < σb.next := by omega
  have hco : cb ∉ o := fun hb => by have := hol cb hb; omega
  clear hσb
  have hb := ha.keep (σ' := σb) fun b hb => sb.get b (hla b hb)
  have tb := ht.keep (σ' := σb) fun b h1 h2 => sb.get b (by omega)
  have tb' := ht'.keep (σ' := σb) fun b h1 h2 => sb.get b (by omega)
  have wb := h.keep (σ' := σb) fun b hb => sb.get b (hol b hb)
  have step : ∀ {lo hi t : Nat} {L : List Int} {σ1 : Mem} {o1 : List Nat} {q : Nat × Nat} {s v : Int} {n : Nat} {K : AV → Mem → Prop}, lens L → TabB lo hi L σb t → hi ≤ σb.next → (∀ b ∈ o, b < lo ∨ hi ≤ b) → Grow o o1 σb σ1 → WrP σ1 w o1 q.1 q.2 → q.2 ≤ 2 ^ 38 → (-9223372036854775808 ≤ v ∧ v ≤ 9223372036854775807) →
      (∀ r σ2 o2, Grow o o2 σb σ2 → WrP σ2 w o2 (laP (layS L q s) v (n : Nat)).1 (laP (layS L q s) v (n : Nat)).2 → Grow o1 o2 σ1 σ2 → K r σ2) → callvW PG (.func n_deflate_symbols_1 [.ptr cb 0]) [.ptr t 0, part s v (n : Nat)] σ1 K := by
    intro lo hi t L σ1 o1 q s v n K hL ht hhi ho g1 w1 hq hv hK
    have n1 := g1.only.next
    refine callvW_of (deflate_symbols_1 (σ := σ1) (o := o1) (p := q) (cb := cb) hL (g1.keepT ho hhi ht) (by omega) (g1.away ho hhi) w1 hq ((g1.only.get cb hcl hco).trans gb) (fun hb => ?_) (by omega) hv) ?_
    · rcases g1.new cb hb with h | h
      · exact hco h
      · omega
    · rintro r σ2 ⟨o2, w2, g2⟩
      exact hK r σ2 o2 (g1.trans g2) w2 g2
  refine hb.rdO.len ?_
  refine loop1 (fun (i : Nat) (y : Int) σ' => y = i ∧ i ≤ l.length ∧ ∃ o', WrP σ' w o' ((l.take i).foldl (layTok L D) p).1 ((l.take i).foldl (layTok L D) p).2 ∧ Grow o o' σb σ') (fun i => l.length - i) 0 ⟨rfl, by omega, o, wb, Grow.refl fun b hb => by have := hol b hb; omega⟩ ?_
  rintro i _ σ1 ⟨rfl, hi', o1, w1, g1⟩
  unfold F_deflate_symbols_l1
  rw [hcb]
  have n1 := g1.only.next
  have hfold := fold_two (l := l.take i) hL hD p fun t ht => hok t (List.mem_of_mem_take ht)
  rw [List.length_take] at hfold
  obtain ⟨q, hq⟩ : ∃ q, (l.take i).foldl (layTok L D) p = q := ⟨_, rfl⟩
  rw [hq] at w1 hfold
  have hq2 : q.2 ≤ 2 ^ 37 + 2 ^ 27 := by omega
  refine ifD (fun hlt => ?_) (fun hge => ?_)
  · have hil : i < l.length := by omega
    have hfs := fold_succ (L := L) (D := D) (p := p) hil
    rw [hq] at hfs
    have hokt := hok l[i] (List.getElem_mem hil)
    have hao1 : ∀ b ∈ blkOf a, b < σb.next ∧ b ∉ o := fun b hb => ⟨by have := hla b hb; omega, hao b hb⟩
    obtain ⟨Y, hY⟩ : ∃ Y, (l.take (i + 1)).foldl (layTok L D) p = Y := ⟨_, rfl⟩
    rw [hY] at hfs
    refine join0 (fun σ' => ∃ o', WrP σ' w o' Y.1 Y.2 ∧ Grow o o' σb σ') ?_ ?_
    · refine hb.rdK (σ' := σ1.bump 5) (fun b hb => g1.only.get b (hao1 b hb).1 (hao1 b hb).2) hil rfl ?_
      obtain ⟨⟨tb0, tl, td⟩, htk⟩ : ∃ t : Tok, l[i] = t := ⟨_, rfl⟩
      rw [htk] at hfs hokt ⊢
      refine To.go ?_
      refine stn gS' (by simp) rfl rfl ?_
      obtain ⟨kb, hkb⟩ : ∃ kb, σ1.next + 3 = kb := ⟨_, rfl⟩
      obtain ⟨σ2, h2⟩ : ∃ σ2, σ2 = ((σ1.bump 5).put kb (some (.rw [.int .i64 0, .int .i64 0, .int .i64 0]))).put kb (some (.rw (setAt [.int .i64 0, .int .i64 0, .int .i64 0] 0 (tokC (tb0, tl, td))))) := ⟨_, rfl⟩
      rw [hkb, ← h2]
      have s2 : σ1.Same σ2 := by rw [h2]; repeat (with_reducible first | assumption | exact Mem.Only.refl _ _ | exact Mem.Same.refl _ | refine Mem.Only.bump ?_ _ | refine Mem.Only.put ?_ (by simp) _ | refine Mem.Only.put ?_ (.inr (by first | omega | (simp only [Mem.next_bump, Mem.next_put]; omega))) _ | refine Mem.Same.bump ?_ _ | refine Mem.Same.put ?_ (by first | omega | (simp only [Mem.next_bump, Mem.next_put]; omega)) _)
      have n2 : σ2.next = σ1.next + 5 := by rw [h2]; rfl
      have g2 : σ2.get kb = some (.rw [.int .i64 tb0, .int .i64 tl, .int .i64 td]) := by rw [h2, gS']; rfl
      clear h2
      have lt1 := g1.lt
      have w2 := w1.keep (σ' := σ2) fun b hb => s2.get b (lt1 b hb)
      have gr2 : Grow o o1 σb σ2 := g1.then s2
      have hko : kb ∉ o1 := fun hb => by have := lt1 kb hb; omega
      unfold layTok at hfs
      dsimp only at hfs
      refine To.go ?_
      refine ldrw (σ := σ2.bump 3) (K := fun a => castI .i64 a _) g2 (v := .int .i64 tl) rfl ?_
      refine ifD (fun h0 => ?_) (fun h0 => ?_)
      · refine To.go ?_
        refine ldrw (σ := σ2.bump 9) (K := fun a => castI .i64 a _) g2 (v := .int .i64 tb0) rfl ?_
        rw [if_pos h0] at hfs
        refine step (s := tb0) (v := 0) (n := 0) (q := q) hL tb (by omega) ho (gr2.bump 9) (w2.keep fun _ _ => rfl) (by omega) (by omega) ?_
        intro r σ3 o3 g3 w3 _
        rw [show ((0 : Nat) : Int) = 0 from rfl, laP_zero] at w3
        rw [hfs]
        exact ⟨o3, w3, g3⟩
      · rw [if_neg h0] at hfs
        have hok2 : 3 ≤ tl ∧ tl ≤ 258 ∧ 1 ≤ td ∧ td ≤ 512 := by
          rcases hokt with h | h
          · exact absurd h.1 h0
          · exact h
        obtain ⟨n, rfl⟩ : ∃ n : Nat, tl = n := ⟨tl.toNat, by omega⟩
        obtain ⟨d, rfl⟩ : ∃ d : Nat, td = d := ⟨td.toNat, by omega⟩
        rw [Int.toNat_natCast, Int.toNat_natCast] at hfs
        have hlb := lenB_sym (n := n) (by omega) (by omega)
        have hdb := disB_sym (n := d) (by omega) (by omega)
        refine To.go ?_
        refine ldrw (σ := σ2.bump 9) (K := fun a => castI .i64 a _) g2 (v := .int .i64 (n : Nat)) rfl ?_
        refine callW_of (deflate_length (by omega) (by omega) _) ?_
        rintro _ σ3 ⟨rfl, s3⟩
        replace s3 := s3.ob
        refine step (s := (lenSym n : Nat)) (v := (n - lenA (lenSym n) : Nat)) (n := lenB (lenSym n)) (q := q) hL tb (by omega) ho (gr2.then s3) (w2.keep fun b hb => s3.get b (by have := lt1 b hb; omega)) (by omega) (by omega) ?_
        intro r σ4 o4 g4 w4 gr4
        obtain ⟨_, ap⟩ := gr4.apart (p := [kb]) (fun b hb => by
          rw [List.mem_singleton] at hb
          subst hb
          have := s3.next
          exact ⟨by omega, hko⟩)
        refine To.go ?_
        refine ldrw (σ := σ4.bump 6) (K := fun a => castI .i64 a _) (gB ((ap kb (by simp)).trans ((s3.get kb (by omega)).trans g2))) (v := .int .i64 (d : Nat)) rfl ?_
        refine callW_of (deflate_distance (by omega) (by omega) _) ?_
        rintro _ σ5 ⟨rfl, s5⟩
        replace s5 := s5.ob
        have e1 := layS_two hL q (lenSym n : Nat)
        refine step (s := (disSym d : Nat)) (v := (d - disS (disSym d) : Nat)) (n := disB (disSym d)) (q := laP (layS L q (lenSym n : Nat)) (n - lenA (lenSym n) : Nat) (lenB (lenSym n) : Nat)) hD tb' (by omega) ho' (g4.then s5) (w4.keep fun b hb => s5.get b (g4.lt b hb)) (by rw [laP_two _ _ (by omega)]; omega) (by omega) ?_
        intro r σ6 o6 g6 w6 _
        rw [hfs]
        exact ⟨o6, w6, g6⟩
    · rintro σ2 ⟨o2, w2, g2⟩
      unfold F_deflate_symbols_j1
      refine iW_of (by omega) ?_
      exact again ⟨i + 1, ⟨by omega, by omega, o2, by rw [hY]; exact w2.keep fun _ _ => rfl, g2.bump _⟩, by omega⟩
  · obtain rfl : i = l.length := by omega
    rw [List.take_length] at hq
    refine step (s := 256) (v := 0) (n := 0) (q := q) hL tb (by omega) ho (g1.bump 5) (w1.keep fun _ _ => rfl) (by omega) (by omega) ?_
    intro r σ3 o3 g3 w3 _
    rw [show ((0 : Nat) : Int) = 0 from rfl, laP_zero] at w3
    unfold layToks
    rw [hq]
    exact ⟨o3, w3, g3.from sb⟩
end Go.Vit
