/- The stream: blocks of codes. -/
import Derived.Test.YtjddffdjbeemaaaV3W8
set_option linter.unusedVariables false
set_option linter.unusedSimpArgs false
set_option linter.unusedSimpArgs false
set_option maxRecDepth 20000
namespace Go.Vit
open Go.Proofs
section
variable {σ σ' : Mem} {o : List Nat} {x r p : Nat} {s : ByteArray} {most : Int} {out : List UInt8} {v : AV}
theorem inflate_codes {σg : Mem} {F : Nat} {L D : List Int} {a b : AV} {one : Int} {Q : AV → Mem → Prop} {k8 : Bool → Mem → Prop} (hx : x = σg.next + 7) (h : Smv σ o x r s p most out v)
    (hL : RdO 1 σ a (ic L) L.length) (hD : RdO 1 σ b (ic D) D.length) (hbl : ∀ z ∈ blkOf b, z < σ.next) (hLl : L.length ≤ 2 ^ 20) (hDl : D.length ≤ 2 ^ 20) (hF : 8 * s.size < F + p)
    (herr : ∀ e, rCodes most F L D out s p = .error e → ∀ o' σ', Grow o o' σ σ' → Q (.tup [.str ⟨#[]⟩, .int .i64 0, .int .i64 e]) σ')
    (hok : ∀ a q, rCodes most F L D out s p = .ok (a, q) → ∀ o' v' σ', Grow o o' σ σ' → Smv σ' o' x r s q most a v' → k8 (decide (one = 1)) σ') :
    F_inflate_Inflate_j2 Q σg k8 one a b σ := by
  unfold F_inflate_Inflate_j2
  unfold rCodes at herr hok
  refine callW_of (huff_Make (σ := σ.bump 7) (hL.keep fun _ _ => rfl) (by omega)) ?_
  rintro _ σ1 ⟨p1, rfl, _, hok1, s1⟩
  have n1 := s1.next
  simp only [Mem.next_bump] at n1 hok1
  replace s1 := s1.ob
  have h1 := h.keep (fun b hb => s1.get b (h.lt b hb)) s1.next
  have g1 := h.g0.then s1
  by_cases hc1 : chk L ≠ 0
  · rw [rBind_er (e := chk L) (by unfold rTable; rw [if_pos hc1]; rfl)] at herr
    repeat (first | refine To.go ?_ | with_reducible refine And.intro (by first | omega | exact ⟨rfl, rfl⟩) ?_ | ((with_reducible apply opt); (· (first | with_reducible assumption | rfl))) | ((with_reducible apply ldrw); (· (first | with_reducible assumption | (simp (disch := omega) only [go_sem, *]; try rfl))); (· (first | with_reducible assumption | rfl))) | ((with_reducible apply ldro); (· (first | with_reducible assumption | (simp (disch := omega) only [go_sem, *]; try rfl))); (· (first | with_reducible assumption | rfl))) | ((with_reducible apply st1); (· (first | with_reducible assumption | (simp (disch := omega) only [go_sem, *]; try rfl))); (· simp); (· rfl)) | with_reducible refine ifT rfl ?_ | with_reducible refine ifF (not_not_intro rfl) ?_ | with_reducible refine ifT (by omega) ?_ | with_reducible refine ifF (by omega) ?_)
    exact herr _ rfl _ _ (g1.bump _)
  replace hc1 : chk L = 0 := by simpa using hc1
  rw [rBind_ok (a := ()) (q := p) (by unfold rTable; rw [if_neg (by simpa using hc1)]; rfl)] at herr hok
  obtain ⟨lL, t, rfl, hT⟩ := hok1 hc1
  clear hok1
  rw [hc1]
  repeat (first | refine To.go ?_ | with_reducible refine And.intro (by first | omega | exact ⟨rfl, rfl⟩) ?_ | ((with_reducible apply opt); (· (first | with_reducible assumption | rfl))) | ((with_reducible apply ldrw); (· (first | with_reducible assumption | (simp (disch := omega) only [go_sem, *]; try rfl))); (· (first | with_reducible assumption | rfl))) | ((with_reducible apply ldro); (· (first | with_reducible assumption | (simp (disch := omega) only [go_sem, *]; try rfl))); (· (first | with_reducible assumption | rfl))) | ((with_reducible apply st1); (· (first | with_reducible assumption | (simp (disch := omega) only [go_sem, *]; try rfl))); (· simp); (· rfl)) | with_reducible refine ifT rfl ?_ | with_reducible refine ifF (not_not_intro rfl) ?_ | with_reducible refine ifT (by omega) ?_ | with_reducible refine ifF (by omega) ?_)
  refine callW_of (huff_Make (σ := σ1.bump 9) (hD.keep fun z hz => s1.get z (hbl z hz)) (by omega)) ?_
  rintro _ σ2 ⟨p2, rfl, _, hok2, s2⟩
  have n2 := s2.next
  simp only [Mem.next_bump] at n2 hok2
  replace s2 := s2.ob
  have h2 := h1.keep (fun b hb => s2.get b (h1.lt b hb)) s2.next
  have g2 := g1.then s2
  by_cases hc2 : chk D ≠ 0
  · rw [rBind_er (e := chk D) (by unfold rTable; rw [if_pos hc2]; rfl)] at herr
    repeat (first | refine To.go ?_ | with_reducible refine And.intro (by first | omega | exact ⟨rfl, rfl⟩) ?_ | ((with_reducible apply opt); (· (first | with_reducible assumption | rfl))) | ((with_reducible apply ldrw); (· (first | with_reducible assumption | (simp (disch := omega) only [go_sem, *]; try rfl))); (· (first | with_reducible assumption | rfl))) | ((with_reducible apply ldro); (· (first | with_reducible assumption | (simp (disch := omega) only [go_sem, *]; try rfl))); (· (first | with_reducible assumption | rfl))) | ((with_reducible apply st1); (· (first | with_reducible assumption | (simp (disch := omega) only [go_sem, *]; try rfl))); (· simp); (· rfl)) | with_reducible refine ifT rfl ?_ | with_reducible refine ifF (not_not_intro rfl) ?_ | with_reducible refine ifT (by omega) ?_ | with_reducible refine ifF (by omega) ?_)
    exact herr _ rfl _ _ (g2.bump _)
  replace hc2 : chk D = 0 := by simpa using hc2
  rw [rBind_ok (a := ()) (q := p) (by unfold rTable; rw [if_neg (by simpa using hc2)]; rfl)] at herr hok
  obtain ⟨lD, t2, rfl, hT2⟩ := hok2 hc2
  clear hok2
  rw [hc2]
  repeat (first | refine To.go ?_ | with_reducible refine And.intro (by first | omega | exact ⟨rfl, rfl⟩) ?_ | ((with_reducible apply opt); (· (first | with_reducible assumption | rfl))) | ((with_reducible apply ldrw); (· (first | with_reducible assumption | (simp (disch := omega) only [go_sem, *]; try rfl))); (· (first | with_reducible assumption | rfl))) | ((with_reducible apply ldro); (· (first | with_reducible assumption | (simp (disch := omega) only [go_sem, *]; try rfl))); (· (first | with_reducible assumption | rfl))) | ((with_reducible apply st1); (· (first | with_reducible assumption | (simp (disch := omega) only [go_sem, *]; try rfl))); (· simp); (· rfl)) | with_reducible refine ifT rfl ?_ | with_reducible refine ifF (not_not_intro rfl) ?_ | with_reducible refine ifT (by omega) ?_ | with_reducible refine ifF (by omega) ?_)
  have hT1 := hT.b.keep (σ' := σ2) fun b _ hb => s2.get b hb
  have g3 := g2.bump 2
  refine inflate_syms hx (h2.bump 2) lL hLl (hT1.keep fun _ _ _ => rfl) (by simp only [Mem.next_bump]; omega) (fun b hb => .inl (by have := h.lt b hb; omega)) lD hDl (hT2.b.keep fun _ _ _ => rfl) (by simp only [Mem.next_bump]; omega) (fun b hb => .inl (by have := h.lt b hb; omega)) hF (fun e he o' σ' g => herr e he o' σ' (g3.trans g)) (fun a q he o' v' σ' g h' => hok a q he o' v' σ' (g3.trans g) h')
end
theorem fixL_len : fixL.length = 288 := arr_len _ _
theorem fixD_len : fixD.length = 32 := arr_len _ _
def inflR (r : Except Int (List UInt8 × Nat)) : AV := match r with
  | .ok (a, q) => .tup [.str ⟨a.toArray⟩, .int .i64 (((q + 7) / 8 : Nat) : Int), .int .i64 0]
  | .error e => .tup [.str ⟨#[]⟩, .int .i64 0, .int .i64 e]
theorem sev_pos {s : ByteArray} : ∀ (ws : List Nat) (acc : List Int) {p q : Nat} {l : List Int}, rSev ws acc s p = .ok (l, q) → q = p + ws.sum
  | [], acc, p, q, l, h => by
    unfold rSev rPure at h
    injection h with h
    rw [← (Prod.mk.inj h).2]; rfl
  | w :: ws, acc, p, q, l, h => by
    unfold rSev at h
    cases e : rBits w s p with
    | error z => rw [rBind_er e] at h; exact absurd h (by simp)
    | ok y =>
      obtain ⟨a, q1⟩ := y
      rw [rBind_ok e] at h
      have h1 := sev_pos ws _ h
      have : q1 = p + w := by
        unfold rBits at e
        split at e
        · exact absurd e (by simp)
        · injection e with e
          exact (Prod.mk.inj e).2.symm
      rw [h1, this, List.sum_cons]; omega
def inflI (σ : Mem) (s : ByteArray) (most : Int) (F : Nat) (R : Except Int (List UInt8 × Nat)) (x r : Nat) (f : Nat) (done : Bool) (σ' : Mem) : Prop :=
  ∃ o out p v, (if done = true then R = .ok (out, p) else rBlocks most F f out s p = R ∧ 8 * s.size < f + p) ∧ Smv σ' o x r s p most out v ∧ σ.Same σ' ∧ ∀ b ∈ o, σ.next ≤ b
theorem inflate_Inflate {σ : Mem} {s : ByteArray} {most : Int} {F : Nat} (hs : s.size ≤ 2 ^ 40) (hm : -9223372036854775808 ≤ most ∧ most ≤ 2 ^ 40) (hF : 8 * s.size < F) :
    ACalls PG n_inflate_Inflate [.str s, .int .i64 most] σ fun w σ' => w = inflR (rInfl most F s 0) ∧ σ.Same σ' := by
  refine ok_inflate_Inflate fun live => ?_
  unfold F_inflate_Inflate
  refine callW_of (bits_Read s (σ.bump 9)) ?_
  rintro _ σ1 ⟨r, rfl, r1, r2, gr, s1⟩
  have n1 := s1.next
  simp only [Mem.next_bump] at n1 r1
  replace s1 := s1.ob
  obtain ⟨x, hx⟩ : ∃ x, x = σ.next + 7 := ⟨_, rfl⟩
  rw [← hx]
  repeat (first | refine To.go ?_ | with_reducible refine And.intro (by first | omega | exact ⟨rfl, rfl⟩) ?_ | ((with_reducible apply opt); (· (first | with_reducible assumption | rfl))) | ((with_reducible apply ldrw); (· (first | with_reducible assumption | (simp (disch := omega) only [go_sem, *]; try rfl))); (· (first | with_reducible assumption | rfl))) | ((with_reducible apply ldro); (· (first | with_reducible assumption | (simp (disch := omega) only [go_sem, *]; try rfl))); (· (first | with_reducible assumption | rfl))) | ((with_reducible apply st1); (· (first | with_reducible assumption | (simp (disch := omega) only [go_sem, *]; try rfl))); (· simp); (· rfl)) | with_reducible refine ifT rfl ?_ | with_reducible refine ifF (not_not_intro rfl) ?_ | with_reducible refine ifT (by omega) ?_ | with_reducible refine ifF (by omega) ?_)
  refine And.intro rfl ?_
  have hnew : (setAt (setAt [AV.nilp, AV.nils, AV.int IntKind.i64 0] 0 (AV.ptr r 0).cells) 2 [AV.int IntKind.i64 most]) = [.ptr r 0, .nils, .int .i64 most] := rfl
  rw [hnew]
  clear hnew
  refine To.go ?_
  obtain ⟨R, hRR⟩ : ∃ R, rInfl most F s 0 = R := ⟨_, rfl⟩
  rw [hRR]
  refine loop1 (g1 := .b) (inflI σ s most F R x r) (fun f => f) F ⟨[x, r], [], 0, .nils, ?_, ?_, ?_, ?_⟩ ?_
  · exact ⟨hRR, by omega⟩
  · refine ⟨rfl, by omega, by simp [blkOf], by simp [blkOf], ?_, ?_, OwnS.nil 1 _, Nat.zero_le _, fun b hb => ?_, .inl rfl, hm, hs⟩
    · rw [Mem.get_bump, gS']
    · rw [Mem.get_bump, Mem.get_put_ne _ (by omega)]; exact gr
    · simp only [Mem.next_put, Mem.next_bump]
      simp only [List.mem_cons, List.not_mem_nil, or_false] at hb
      omega
  · repeat (with_reducible first | assumption | exact Mem.Only.refl _ _ | exact Mem.Same.refl _ | refine Mem.Only.bump ?_ _ | refine Mem.Only.put ?_ (by simp) _ | refine Mem.Only.put ?_ (.inr (by first | omega | (simp only [Mem.next_bump, Mem.next_put]; omega))) _ | refine Mem.Same.bump ?_ _ | refine Mem.Same.put ?_ (by first | omega | (simp only [Mem.next_bump, Mem.next_put]; omega)) _)
  · intro b hb
    simp only [List.mem_cons, List.not_mem_nil, or_false] at hb
    omega
  rintro f done σ1 ⟨o, out, p, v, hR, h, s1, ho⟩
  clear hRR
  have n1 := s1.next
  unfold F_inflate_Inflate_l1
  rw [← hx]
  cases done with
  | true =>
    obtain rfl : R = .ok (out, p) := hR
    obtain ⟨r', hr'⟩ : ∃ r', r' = r := ⟨_, rfl⟩
    rw [← hr'] at h
    repeat (first | refine To.go ?_ | with_reducible refine And.intro (by first | omega | exact ⟨rfl, rfl⟩) ?_ | ((with_reducible apply opt); (· (first | with_reducible assumption | rfl))) | ((with_reducible apply ldrw); (· (first | with_reducible assumption | (simp (disch := omega) only [go_sem, *]; try rfl))); (· (first | with_reducible assumption | rfl))) | ((with_reducible apply ldro); (· (first | with_reducible assumption | (simp (disch := omega) only [go_sem, *]; try rfl))); (· (first | with_reducible assumption | rfl))) | ((with_reducible apply st1); (· (first | with_reducible assumption | (simp (disch := omega) only [go_sem, *]; try rfl))); (· simp); (· rfl)) | with_reducible refine ifT rfl ?_ | with_reducible refine ifF (not_not_intro rfl) ?_ | with_reducible refine ifT (by omega) ?_ | with_reducible refine ifF (by omega) ?_)
    refine ldrw h.gx (v := v) rfl ?_
    refine OwnS.bstr (σ := σ1.bump 19) (h.own.keep fun _ _ => rfl) ?_
    refine To.go ?_
    refine ldrw h.gx (v := .ptr r' 0) rfl ?_
    refine callW_of (bits_Reader_Left (σ := σ1.bump 19) (by rw [reach_eq]; omega) h.gr h.le) ?_
    rintro _ σ2 ⟨rfl, s2⟩
    have s2' := s2.ob
    have hle := h.le
    refine To.go ?_
    refine And.intro (s2.get x (h.bump 19 |>.lt x (by rw [h.eqo]; simp))) ?_
    have hfin : ∀ X : Prop, X → fltS.sameW (σ1.bump 19) σ2 v X := by
      intro X hX
      rcases h.own with ⟨rfl, _, _⟩ | ⟨b, rfl, _, _⟩
      · refine To.go ?_; exact hX
      · refine To.go ?_
        exact ⟨s2.get b (h.bump 19 |>.lt b (by rw [h.eqo]; simp [blkOf])), hX⟩
    refine hfin _ ?_
    repeat (first | refine To.go ?_ | with_reducible refine And.intro (by first | omega | exact ⟨rfl, rfl⟩) ?_ | ((with_reducible apply opt); (· (first | with_reducible assumption | rfl))) | ((with_reducible apply ldrw); (· (first | with_reducible assumption | (simp (disch := omega) only [go_sem, *]; try rfl))); (· (first | with_reducible assumption | rfl))) | ((with_reducible apply ldro); (· (first | with_reducible assumption | (simp (disch := omega) only [go_sem, *]; try rfl))); (· (first | with_reducible assumption | rfl))) | ((with_reducible apply st1); (· (first | with_reducible assumption | (simp (disch := omega) only [go_sem, *]; try rfl))); (· simp); (· rfl)) | with_reducible refine ifT rfl ?_ | with_reducible refine ifF (not_not_intro rfl) ?_ | with_reducible refine ifT (by omega) ?_ | with_reducible refine ifF (by omega) ?_)
    refine ⟨?_, s1.trans s2'⟩
    show _ = AV.tup _
    rw [show (s.size : Int) - ((8 * s.size - p : Nat) : Int) / 8 = (((p + 7) / 8 : Nat) : Int) from by omega]
  | false =>
    obtain ⟨hR, hF'⟩ : rBlocks most F f out s p = R ∧ 8 * s.size < f + p := hR
    have hle := h.le
    obtain ⟨f, rfl⟩ : ∃ f', f = f' + 1 := ⟨f - 1, by omega⟩
    unfold rBlocks at hR
    repeat (first | refine To.go ?_ | with_reducible refine And.intro (by first | omega | exact ⟨rfl, rfl⟩) ?_ | ((with_reducible apply opt); (· (first | with_reducible assumption | rfl))) | ((with_reducible apply ldrw); (· (first | with_reducible assumption | (simp (disch := omega) only [go_sem, *]; try rfl))); (· (first | with_reducible assumption | rfl))) | ((with_reducible apply ldro); (· (first | with_reducible assumption | (simp (disch := omega) only [go_sem, *]; try rfl))); (· (first | with_reducible assumption | rfl))) | ((with_reducible apply st1); (· (first | with_reducible assumption | (simp (disch := omega) only [go_sem, *]; try rfl))); (· simp); (· rfl)) | with_reducible refine ifT rfl ?_ | with_reducible refine ifF (not_not_intro rfl) ?_ | with_reducible refine ifT (by omega) ?_ | with_reducible refine ifF (by omega) ?_)
    refine joinI ?_
    obtain ⟨lb, hlb⟩ : ∃ b, σ1.next + 3 = b := ⟨_, rfl⟩
    rw [hlb]
    refine To.go ?_
    obtain ⟨σ2, h2⟩ : ∃ σ2, σ2 = (σ1.bump 10).put lb (some (.rw [.int .i64 1, .int .i64 2])) := ⟨_, rfl⟩
    rw [← h2]
    have s2 : σ1.Same σ2 := by rw [h2]; repeat (with_reducible first | assumption | exact Mem.Only.refl _ _ | exact Mem.Same.refl _ | refine Mem.Only.bump ?_ _ | refine Mem.Only.put ?_ (by simp) _ | refine Mem.Only.put ?_ (.inr (by first | omega | (simp only [Mem.next_bump, Mem.next_put]; omega))) _ | refine Mem.Same.bump ?_ _ | refine Mem.Same.put ?_ (by first | omega | (simp only [Mem.next_bump, Mem.next_put]; omega)) _)
    have n2 : σ2.next = σ1.next + 10 := by rw [h2]; rfl
    have e2 : σ2.get lb = some (.rw (ic ([1, 2].map fun (n : Nat) => (n : Int)))) := by rw [h2, gS']; rfl
    clear h2
    have ho1 := h.lt
    have hs2 := h.keep (fun b hb => s2.get b (ho1 b hb)) s2.next
    refine callW_of (inflate_several (ws := [1, 2]) hs2 (.mk (b := lb) rfl ⟨_, e2, rfl⟩ rfl) (fun b hb => ?_) (by decide) (by decide)) ?_
    · simp [blkOf] at hb; subst hb
      exact ⟨fun hm => by have := ho1 b hm; omega, by omega⟩
    rintro w σ3 ⟨g3, hw⟩
    have g3 := h.g0.then s2 |>.trans g3
    have s3 := (g3.same s1 ho).1
    cases e : rSev [1, 2] [] s p with
    | error z =>
      rw [e] at hw
      obtain ⟨c, rfl⟩ := hw
      have hz := Fr.ne (.sev _ _) h.le e
      rw [rBind_er e] at hR
      subst hR
      repeat (first | refine To.go ?_ | with_reducible refine And.intro (by first | omega | exact ⟨rfl, rfl⟩) ?_ | ((with_reducible apply opt); (· (first | with_reducible assumption | rfl))) | ((with_reducible apply ldrw); (· (first | with_reducible assumption | (simp (disch := omega) only [go_sem, *]; try rfl))); (· (first | with_reducible assumption | rfl))) | ((with_reducible apply ldro); (· (first | with_reducible assumption | (simp (disch := omega) only [go_sem, *]; try rfl))); (· (first | with_reducible assumption | rfl))) | ((with_reducible apply st1); (· (first | with_reducible assumption | (simp (disch := omega) only [go_sem, *]; try rfl))); (· simp); (· rfl)) | with_reducible refine ifT rfl ?_ | with_reducible refine ifF (not_not_intro rfl) ?_ | with_reducible refine ifT (by omega) ?_ | with_reducible refine ifF (by omega) ?_)
      exact ⟨rfl, s3.bump _⟩
    | ok y =>
      obtain ⟨hd, q⟩ := y
      rw [e] at hw
      obtain ⟨c, rfl, hc, hcb, h3⟩ := hw
      rw [rBind_ok e] at hR
      obtain ⟨vs, hvs, hvl, hvb⟩ := sev_get _ _ e
      match vs, hvl with
      | [a0, a1], _ =>
      have b0 : a0 < 2 := hvb 0 (by decide) (by simp)
      have b1 : a1 < 4 := hvb 1 (by decide) (by simp)
      obtain rfl : hd = [(a0 : Int), (a1 : Int)] := by rw [hvs]; rfl
      have hpq : p + 3 ≤ q := by
        have := sev_pos _ _ e
        simp at this; omega
      clear hvs hvb hvl e
      have d0 : ([(a0 : Int), (a1 : Int)].getD 0 0) = a0 := by simp
      have d1 : ([(a0 : Int), (a1 : Int)].getD 1 0) = a1 := by simp
      rw [d0, d1] at hR
      clear d0 d1
      obtain ⟨bb, bz, bc, rfl, hg0⟩ := hc.at (i := 0) (by simp)
      obtain ⟨bb, bz, bc, hq, hg1⟩ := hc.at (i := 1) (by simp)
      injection hq with q1 q2 q3 q4
      subst q1 q2 q4
      simp only [List.getElem_cons_zero, List.getElem_cons_succ, List.length_cons, List.length_nil] at hg0 hg1
      have rd0 : ∀ {K : Int → Prop} (n : Nat), K a0 → ldI (σ3.bump n) (.ptr bb bz) K := fun n hk => by
        refine To.go ?_
        exact hg0 n (by refine To.go ?_; exact hk)
      have rd1 : ∀ {K : Int → Prop} (n : Nat), K a1 → ldI (σ3.bump n) (.ptr bb (bz + 1)) K := fun n hk => by
        refine To.go ?_
        exact hg1 n (by refine To.go ?_; exact hk)
      repeat (first | refine To.go ?_ | with_reducible refine And.intro (by first | omega | exact ⟨rfl, rfl⟩) ?_ | ((with_reducible apply opt); (· (first | with_reducible assumption | rfl))) | ((with_reducible apply ldrw); (· (first | with_reducible assumption | (simp (disch := omega) only [go_sem, *]; try rfl))); (· (first | with_reducible assumption | rfl))) | ((with_reducible apply ldro); (· (first | with_reducible assumption | (simp (disch := omega) only [go_sem, *]; try rfl))); (· (first | with_reducible assumption | rfl))) | ((with_reducible apply st1); (· (first | with_reducible assumption | (simp (disch := omega) only [go_sem, *]; try rfl))); (· simp); (· rfl)) | with_reducible refine ifT rfl ?_ | with_reducible refine ifF (not_not_intro rfl) ?_ | with_reducible refine ifT (by omega) ?_ | with_reducible refine ifF (by omega) ?_)
      refine And.intro (by simp) ?_
      refine rd0 _ ?_
      refine To.go ?_
      refine And.intro (by simp) ?_
      refine rd1 _ ?_
      clear rd0 rd1 hg0 hg1 q3 hc
      have herr : ∀ {z}, rBlock most F (a1 : Int) out s q = .error z → R = .error z := fun {z} he => by rw [rBind_er he] at hR; exact hR.symm
      have hok : ∀ a q2, rBlock most F (a1 : Int) out s q = .ok (a, q2) → ∀ o' v' σ', Grow o o' σ1 σ' → Smv σ' o' x r s q2 most a v' → F_inflate_Inflate_j1 (fun (x1 : Bool) σ_1 => Again (∃ j, inflI σ s most F R x r j x1 σ_1 ∧ j < f + 1)) (decide ((a0 : Int) = 1)) σ' := by
        intro a q2 he o' v' σ' g h'
        have hq2 := (Fr.le (.block _ _ _ _) h3.le he).1
        rw [rBind_ok he] at hR
        unfold F_inflate_Inflate_j1
        have hs := g.same s1 ho
        refine again ⟨f, ⟨o', a, q2, v', ?_, h', hs.1, hs.2⟩, by omega⟩
        by_cases h01 : (a0 : Int) = 1
        · rw [if_pos h01] at hR
          rw [if_pos (decide_eq_true h01)]
          exact hR.symm
        · rw [if_neg h01] at hR
          rw [if_neg (by simpa using h01)]
          exact ⟨hR, by omega⟩
      clear hR hcb b0 hs2 e2 s2
      have hsame : ∀ {o' σ'}, Grow o o' σ1 σ' → σ.Same σ' := fun g => (g.same s1 ho).1
      unfold rBlock at hok herr
      rcases (by omega : a1 = 0 ∨ a1 = 1 ∨ a1 = 2 ∨ a1 = 3) with rfl | rfl | rfl | rfl
      · rw [if_pos (show ((0 : Nat) : Int) = 0 by decide)] at hok herr
        repeat (first | refine To.go ?_ | with_reducible refine And.intro (by first | omega | exact ⟨rfl, rfl⟩) ?_ | ((with_reducible apply opt); (· (first | with_reducible assumption | rfl))) | ((with_reducible apply ldrw); (· (first | with_reducible assumption | (simp (disch := omega) only [go_sem, *]; try rfl))); (· (first | with_reducible assumption | rfl))) | ((with_reducible apply ldro); (· (first | with_reducible assumption | (simp (disch := omega) only [go_sem, *]; try rfl))); (· (first | with_reducible assumption | rfl))) | ((with_reducible apply st1); (· (first | with_reducible assumption | (simp (disch := omega) only [go_sem, *]; try rfl))); (· simp); (· rfl)) | with_reducible refine ifT rfl ?_ | with_reducible refine ifF (not_not_intro rfl) ?_ | with_reducible refine ifT (by omega) ?_ | with_reducible refine ifF (by omega) ?_)
        refine callW_of (inflate_stored (h3.bump 17)) ?_
        rintro w σ4 ⟨o4, g4, hw⟩
        replace g4 := g3.trans g4.ob
        cases e : rStored most out s q with
        | error z =>
          rw [e] at hw
          subst hw
          have hz := Fr.ne (.stored _ _) h3.le e
          rw [herr e]
          repeat (first | refine To.go ?_ | with_reducible refine And.intro (by first | omega | exact ⟨rfl, rfl⟩) ?_ | ((with_reducible apply opt); (· (first | with_reducible assumption | rfl))) | ((with_reducible apply ldrw); (· (first | with_reducible assumption | (simp (disch := omega) only [go_sem, *]; try rfl))); (· (first | with_reducible assumption | rfl))) | ((with_reducible apply ldro); (· (first | with_reducible assumption | (simp (disch := omega) only [go_sem, *]; try rfl))); (· (first | with_reducible assumption | rfl))) | ((with_reducible apply st1); (· (first | with_reducible assumption | (simp (disch := omega) only [go_sem, *]; try rfl))); (· simp); (· rfl)) | with_reducible refine ifT rfl ?_ | with_reducible refine ifF (not_not_intro rfl) ?_ | with_reducible refine ifT (by omega) ?_ | with_reducible refine ifF (by omega) ?_)
          exact ⟨rfl, (hsame g4).bump _⟩
        | ok y =>
          obtain ⟨a, q2⟩ := y
          rw [e] at hw
          obtain ⟨rfl, v4, h4⟩ := hw
          repeat (first | refine To.go ?_ | with_reducible refine And.intro (by first | omega | exact ⟨rfl, rfl⟩) ?_ | ((with_reducible apply opt); (· (first | with_reducible assumption | rfl))) | ((with_reducible apply ldrw); (· (first | with_reducible assumption | (simp (disch := omega) only [go_sem, *]; try rfl))); (· (first | with_reducible assumption | rfl))) | ((with_reducible apply ldro); (· (first | with_reducible assumption | (simp (disch := omega) only [go_sem, *]; try rfl))); (· (first | with_reducible assumption | rfl))) | ((with_reducible apply st1); (· (first | with_reducible assumption | (simp (disch := omega) only [go_sem, *]; try rfl))); (· simp); (· rfl)) | with_reducible refine ifT rfl ?_ | with_reducible refine ifF (not_not_intro rfl) ?_ | with_reducible refine ifT (by omega) ?_ | with_reducible refine ifF (by omega) ?_)
          exact hok a q2 e _ _ _ (g4.bump _) (h4.bump _)
      · rw [if_neg (show ¬ ((1 : Nat) : Int) = 0 by decide), if_pos (show ((1 : Nat) : Int) = 1 by decide)] at hok herr
        repeat (first | refine To.go ?_ | with_reducible refine And.intro (by first | omega | exact ⟨rfl, rfl⟩) ?_ | ((with_reducible apply opt); (· (first | with_reducible assumption | rfl))) | ((with_reducible apply ldrw); (· (first | with_reducible assumption | (simp (disch := omega) only [go_sem, *]; try rfl))); (· (first | with_reducible assumption | rfl))) | ((with_reducible apply ldro); (· (first | with_reducible assumption | (simp (disch := omega) only [go_sem, *]; try rfl))); (· (first | with_reducible assumption | rfl))) | ((with_reducible apply st1); (· (first | with_reducible assumption | (simp (disch := omega) only [go_sem, *]; try rfl))); (· simp); (· rfl)) | with_reducible refine ifT rfl ?_ | with_reducible refine ifF (not_not_intro rfl) ?_ | with_reducible refine ifT (by omega) ?_ | with_reducible refine ifF (by omega) ?_)
        refine joinI ?_
        repeat (first | refine To.go ?_ | with_reducible refine And.intro (by first | omega | exact ⟨rfl, rfl⟩) ?_ | ((with_reducible apply opt); (· (first | with_reducible assumption | rfl))) | ((with_reducible apply ldrw); (· (first | with_reducible assumption | (simp (disch := omega) only [go_sem, *]; try rfl))); (· (first | with_reducible assumption | rfl))) | ((with_reducible apply ldro); (· (first | with_reducible assumption | (simp (disch := omega) only [go_sem, *]; try rfl))); (· (first | with_reducible assumption | rfl))) | ((with_reducible apply st1); (· (first | with_reducible assumption | (simp (disch := omega) only [go_sem, *]; try rfl))); (· simp); (· rfl)) | with_reducible refine ifT rfl ?_ | with_reducible refine ifF (not_not_intro rfl) ?_ | with_reducible refine ifT (by omega) ?_ | with_reducible refine ifF (by omega) ?_)
        refine callW_of (inflate_fixed (σ3.bump 22)) ?_
        rintro _ σ4 ⟨ba, bd, rfl, h1, h2, hb1, hb2, s4⟩
        have s4' := s4.ob
        repeat (first | refine To.go ?_ | with_reducible refine And.intro (by first | omega | exact ⟨rfl, rfl⟩) ?_ | ((with_reducible apply opt); (· (first | with_reducible assumption | rfl))) | ((with_reducible apply ldrw); (· (first | with_reducible assumption | (simp (disch := omega) only [go_sem, *]; try rfl))); (· (first | with_reducible assumption | rfl))) | ((with_reducible apply ldro); (· (first | with_reducible assumption | (simp (disch := omega) only [go_sem, *]; try rfl))); (· (first | with_reducible assumption | rfl))) | ((with_reducible apply st1); (· (first | with_reducible assumption | (simp (disch := omega) only [go_sem, *]; try rfl))); (· simp); (· rfl)) | with_reducible refine ifT rfl ?_ | with_reducible refine ifF (not_not_intro rfl) ?_ | with_reducible refine ifT (by omega) ?_ | with_reducible refine ifF (by omega) ?_)
        refine inflate_codes hx (h3.keep (fun b hb => s4'.get b (h3.lt b hb)) s4'.next) (L := fixL) (D := fixD) (F := F) (.mk rfl ⟨_, h1, rfl⟩ rfl) (.mk rfl ⟨_, h2, rfl⟩ rfl) (fun z hz => ?_) (by rw [fixL_len]; omega) (by rw [fixD_len]; omega) (by omega) ?_ ?_
        · have : z = bd := by simpa [blkOf] using hz
          omega
        · intro e he o' σ' g
          exact ⟨by rw [herr he]; rfl, hsame (g3.then s4' |>.trans g)⟩
        · intro a q2 he o' v' σ' g h'
          exact hok a q2 he _ _ _ (g3.then s4' |>.trans g) h'
      · rw [if_neg (show ¬ ((2 : Nat) : Int) = 0 by decide), if_neg (show ¬ ((2 : Nat) : Int) = 1 by decide), if_pos (show ((2 : Nat) : Int) = 2 by decide)] at hok herr
        repeat (first | refine To.go ?_ | with_reducible refine And.intro (by first | omega | exact ⟨rfl, rfl⟩) ?_ | ((with_reducible apply opt); (· (first | with_reducible assumption | rfl))) | ((with_reducible apply ldrw); (· (first | with_reducible assumption | (simp (disch := omega) only [go_sem, *]; try rfl))); (· (first | with_reducible assumption | rfl))) | ((with_reducible apply ldro); (· (first | with_reducible assumption | (simp (disch := omega) only [go_sem, *]; try rfl))); (· (first | with_reducible assumption | rfl))) | ((with_reducible apply st1); (· (first | with_reducible assumption | (simp (disch := omega) only [go_sem, *]; try rfl))); (· simp); (· rfl)) | with_reducible refine ifT rfl ?_ | with_reducible refine ifF (not_not_intro rfl) ?_ | with_reducible refine ifT (by omega) ?_ | with_reducible refine ifF (by omega) ?_)
        refine joinI ?_
        repeat (first | refine To.go ?_ | with_reducible refine And.intro (by first | omega | exact ⟨rfl, rfl⟩) ?_ | ((with_reducible apply opt); (· (first | with_reducible assumption | rfl))) | ((with_reducible apply ldrw); (· (first | with_reducible assumption | (simp (disch := omega) only [go_sem, *]; try rfl))); (· (first | with_reducible assumption | rfl))) | ((with_reducible apply ldro); (· (first | with_reducible assumption | (simp (disch := omega) only [go_sem, *]; try rfl))); (· (first | with_reducible assumption | rfl))) | ((with_reducible apply st1); (· (first | with_reducible assumption | (simp (disch := omega) only [go_sem, *]; try rfl))); (· simp); (· rfl)) | with_reducible refine ifT rfl ?_ | with_reducible refine ifF (not_not_intro rfl) ?_ | with_reducible refine ifT (by omega) ?_ | with_reducible refine ifF (by omega) ?_)
        refine callW_of (inflate_dynamic (h3.bump 27)) ?_
        rintro w σ4 ⟨g4, hw⟩
        have n4 := g4.only.next
        replace g4 := g3.trans g4.ob
        cases e : rDyn s q with
        | error z =>
          rw [e] at hw
          obtain ⟨a, b, rfl⟩ := hw
          have hz := Fr.ne .dyn h3.le e
          rw [rBind_er e] at herr
          rw [herr rfl]
          repeat (first | refine To.go ?_ | with_reducible refine And.intro (by first | omega | exact ⟨rfl, rfl⟩) ?_ | ((with_reducible apply opt); (· (first | with_reducible assumption | rfl))) | ((with_reducible apply ldrw); (· (first | with_reducible assumption | (simp (disch := omega) only [go_sem, *]; try rfl))); (· (first | with_reducible assumption | rfl))) | ((with_reducible apply ldro); (· (first | with_reducible assumption | (simp (disch := omega) only [go_sem, *]; try rfl))); (· (first | with_reducible assumption | rfl))) | ((with_reducible apply st1); (· (first | with_reducible assumption | (simp (disch := omega) only [go_sem, *]; try rfl))); (· simp); (· rfl)) | with_reducible refine ifT rfl ?_ | with_reducible refine ifF (not_not_intro rfl) ?_ | with_reducible refine ifT (by omega) ?_ | with_reducible refine ifF (by omega) ?_)
          exact ⟨rfl, (hsame g4).bump _⟩
        | ok y =>
          obtain ⟨⟨L, D⟩, q2⟩ := y
          rw [e] at hw
          obtain ⟨a, b, rfl, hLr, hDr, hbl, hl1, hl2, h4⟩ := hw
          have hq2 := (Fr.le .dyn h3.le e).1
          rw [rBind_ok e] at herr hok
          repeat (first | refine To.go ?_ | with_reducible refine And.intro (by first | omega | exact ⟨rfl, rfl⟩) ?_ | ((with_reducible apply opt); (· (first | with_reducible assumption | rfl))) | ((with_reducible apply ldrw); (· (first | with_reducible assumption | (simp (disch := omega) only [go_sem, *]; try rfl))); (· (first | with_reducible assumption | rfl))) | ((with_reducible apply ldro); (· (first | with_reducible assumption | (simp (disch := omega) only [go_sem, *]; try rfl))); (· (first | with_reducible assumption | rfl))) | ((with_reducible apply st1); (· (first | with_reducible assumption | (simp (disch := omega) only [go_sem, *]; try rfl))); (· simp); (· rfl)) | with_reducible refine ifT rfl ?_ | with_reducible refine ifF (not_not_intro rfl) ?_ | with_reducible refine ifT (by omega) ?_ | with_reducible refine ifF (by omega) ?_)
          refine inflate_codes hx (h4.bump 2) (L := L) (D := D) (F := F) (hLr.keep fun _ _ => rfl) (hDr.keep fun _ _ => rfl) (fun z hz => ?_) hl1 hl2 (by omega) ?_ ?_
          · have := hbl z (by simp [hz]); simp only [Mem.next_bump]; omega
          · intro e he o' σ' g
            exact ⟨by rw [herr he]; rfl, hsame (g4.trans g.ob)⟩
          · intro a q2 he o' v' σ' g h'
            exact hok a q2 he _ _ _ (g4.trans g.ob) h'
      · rw [if_neg (show ¬ ((3 : Nat) : Int) = 0 by decide), if_neg (show ¬ ((3 : Nat) : Int) = 1 by decide), if_neg (show ¬ ((3 : Nat) : Int) = 2 by decide)] at herr
        rw [herr rfl]
        repeat (first | refine To.go ?_ | with_reducible refine And.intro (by first | omega | exact ⟨rfl, rfl⟩) ?_ | ((with_reducible apply opt); (· (first | with_reducible assumption | rfl))) | ((with_reducible apply ldrw); (· (first | with_reducible assumption | (simp (disch := omega) only [go_sem, *]; try rfl))); (· (first | with_reducible assumption | rfl))) | ((with_reducible apply ldro); (· (first | with_reducible assumption | (simp (disch := omega) only [go_sem, *]; try rfl))); (· (first | with_reducible assumption | rfl))) | ((with_reducible apply st1); (· (first | with_reducible assumption | (simp (disch := omega) only [go_sem, *]; try rfl))); (· simp); (· rfl)) | with_reducible refine ifT rfl ?_ | with_reducible refine ifF (not_not_intro rfl) ?_ | with_reducible refine ifT (by omega) ?_ | with_reducible refine ifF (by omega) ?_)
        refine joinI ?_
        repeat (first | refine To.go ?_ | with_reducible refine And.intro (by first | omega | exact ⟨rfl, rfl⟩) ?_ | ((with_reducible apply opt); (· (first | with_reducible assumption | rfl))) | ((with_reducible apply ldrw); (· (first | with_reducible assumption | (simp (disch := omega) only [go_sem, *]; try rfl))); (· (first | with_reducible assumption | rfl))) | ((with_reducible apply ldro); (· (first | with_reducible assumption | (simp (disch := omega) only [go_sem, *]; try rfl))); (· (first | with_reducible assumption | rfl))) | ((with_reducible apply st1); (· (first | with_reducible assumption | (simp (disch := omega) only [go_sem, *]; try rfl))); (· simp); (· rfl)) | with_reducible refine ifT rfl ?_ | with_reducible refine ifF (not_not_intro rfl) ?_ | with_reducible refine ifT (by omega) ?_ | with_reducible refine ifF (by omega) ?_)
        exact ⟨rfl, (hsame g3).bump _⟩
end Go.Vit
