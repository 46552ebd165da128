/- What tokens say: the program's; the law LzExpands. -/
import Derived.Test.YtjhmjjbllaodlaaVL5
import Derived.Test.YtjhmjjbllaodlaaVL4
set_option linter.unusedVariables false
set_option linter.unusedSimpArgs false
set_option linter.unusedSimpArgs false
set_option maxRecDepth 20000
namespace Go.Vit
open Go.Proofs
def okC (t : Tok) : Prop := t.1 = 0 ∧ 3 ≤ t.2.1 ∧ t.2.1 ≤ 258 ∧ 1 ≤ t.2.2 ∧ t.2.2 ≤ 32768
theorem lz_tail {Q k : AV → Mem → Prop} {σ σ4 σ8 : Mem} {v2 : AV} {out : List UInt8} {b ln ds : Int} {q : Nat} (hq : σ4.next + 3 = q) (e : σ8.get q = some (.rw [.int .i64 b, .int .i64 ln, .int .i64 ds]))
    (own : Own 1 σ σ8 v2 (bl out) out.length) (s8 : σ.Same σ8) (hqn : q < σ8.next) (hqv : q ∉ blkOf v2) (hlen : out.length ≤ 2 ^ 40)
    (herr1 : ¬ okC (b, ln, ds) → Q (.tup [.str ⟨#[]⟩, .int .i64 1]) (σ8.bump 42))
    (herr15 : okC (b, ln, ds) → (out.length : Int) < ds → Q (.tup [.str ⟨#[]⟩, .int .i64 15]) (σ8.bump 48))
    (hk : okC (b, ln, ds) → ¬ (out.length : Int) < ds → ∀ v' σ', Own 1 σ σ' v' (bl (copyN out ds.toNat ln.toNat)) (copyN out ds.toNat ln.toNat).length → σ.Same σ' → k v' σ') :
fldW 0 (.ptr (σ4.next + 3) 0) fun v93 =>
ldI (σ8.bump 40) v93 fun v94 =>
ifB (decide (v94 ≠ 0)) (
Q (.tup [.str ⟨#[]⟩, .int .i64 1]) (σ8.bump 42)) (
fldW 1 (.ptr (σ4.next + 3) 0) fun v95 =>
ldI (σ8.bump 40) v95 fun v96 =>
ifB (decide (v96 < 3)) (
Q (.tup [.str ⟨#[]⟩, .int .i64 1]) (σ8.bump 42)) (
fldW 1 (.ptr (σ4.next + 3) 0) fun v97 =>
ldI (σ8.bump 40) v97 fun v98 =>
ifB (decide (258 < v98)) (
Q (.tup [.str ⟨#[]⟩, .int .i64 1]) (σ8.bump 42)) (
fldW 2 (.ptr (σ4.next + 3) 0) fun v99 =>
ldI (σ8.bump 40) v99 fun v100 =>
ifB (decide (v100 < 1)) (
Q (.tup [.str ⟨#[]⟩, .int .i64 1]) (σ8.bump 42)) (
fldW 2 (.ptr (σ4.next + 3) 0) fun v101 =>
ldI (σ8.bump 40) v101 fun v102 =>
ifB (decide (32768 < v102)) (
Q (.tup [.str ⟨#[]⟩, .int .i64 1]) (σ8.bump 42)) (
fldW 2 (.ptr (σ4.next + 3) 0) fun v103 =>
ldI (σ8.bump 46) v103 fun v104 =>
slenW v2 fun v105 =>
ifB (decide (v105 < v104)) (
Q (.tup [.str ⟨#[]⟩, .int .i64 15]) (σ8.bump 48)) (
fldW 1 (.ptr (σ4.next + 3) 0) fun v106 =>
ldI (σ8.bump 49) v106 fun v107 =>
loopF [.v, tI] (F_lz_Expand_l2 σ4 k v107) v2 0 (σ8.bump 49)))))))  := by
  unfold okC at herr1 herr15 hk
  dsimp only at herr1 herr15 hk
  rw [hq]
  repeat (first | refine To.go ?_ | with_reducible refine And.intro (by first | omega | exact ⟨rfl, rfl⟩) ?_ | ((with_reducible apply opt); (· (first | with_reducible assumption | rfl))) | ((with_reducible apply ldrw); (· (first | with_reducible assumption | (simp (disch := omega) only [go_sem, *]; try rfl))); (· (first | with_reducible assumption | rfl))) | ((with_reducible apply ldro); (· (first | with_reducible assumption | (simp (disch := omega) only [go_sem, *]; try rfl))); (· (first | with_reducible assumption | rfl))) | ((with_reducible apply st1); (· (first | with_reducible assumption | (simp (disch := omega) only [go_sem, *]; try rfl))); (· simp); (· rfl)) | with_reducible refine ifT rfl ?_ | with_reducible refine ifF (not_not_intro rfl) ?_ | with_reducible refine ifT (by omega) ?_ | with_reducible refine ifF (by omega) ?_)
  refine ifD (fun h => herr1 (by omega)) (fun h0 => ?_)
  repeat (first | refine To.go ?_ | with_reducible refine And.intro (by first | omega | exact ⟨rfl, rfl⟩) ?_ | ((with_reducible apply opt); (· (first | with_reducible assumption | rfl))) | ((with_reducible apply ldrw); (· (first | with_reducible assumption | (simp (disch := omega) only [go_sem, *]; try rfl))); (· (first | with_reducible assumption | rfl))) | ((with_reducible apply ldro); (· (first | with_reducible assumption | (simp (disch := omega) only [go_sem, *]; try rfl))); (· (first | with_reducible assumption | rfl))) | ((with_reducible apply st1); (· (first | with_reducible assumption | (simp (disch := omega) only [go_sem, *]; try rfl))); (· simp); (· rfl)) | with_reducible refine ifT rfl ?_ | with_reducible refine ifF (not_not_intro rfl) ?_ | with_reducible refine ifT (by omega) ?_ | with_reducible refine ifF (by omega) ?_)
  refine ifD (fun h => herr1 (by omega)) (fun h3 => ?_)
  repeat (first | refine To.go ?_ | with_reducible refine And.intro (by first | omega | exact ⟨rfl, rfl⟩) ?_ | ((with_reducible apply opt); (· (first | with_reducible assumption | rfl))) | ((with_reducible apply ldrw); (· (first | with_reducible assumption | (simp (disch := omega) only [go_sem, *]; try rfl))); (· (first | with_reducible assumption | rfl))) | ((with_reducible apply ldro); (· (first | with_reducible assumption | (simp (disch := omega) only [go_sem, *]; try rfl))); (· (first | with_reducible assumption | rfl))) | ((with_reducible apply st1); (· (first | with_reducible assumption | (simp (disch := omega) only [go_sem, *]; try rfl))); (· simp); (· rfl)) | with_reducible refine ifT rfl ?_ | with_reducible refine ifF (not_not_intro rfl) ?_ | with_reducible refine ifT (by omega) ?_ | with_reducible refine ifF (by omega) ?_)
  refine ifD (fun h => herr1 (by omega)) (fun h258 => ?_)
  repeat (first | refine To.go ?_ | with_reducible refine And.intro (by first | omega | exact ⟨rfl, rfl⟩) ?_ | ((with_reducible apply opt); (· (first | with_reducible assumption | rfl))) | ((with_reducible apply ldrw); (· (first | with_reducible assumption | (simp (disch := omega) only [go_sem, *]; try rfl))); (· (first | with_reducible assumption | rfl))) | ((with_reducible apply ldro); (· (first | with_reducible assumption | (simp (disch := omega) only [go_sem, *]; try rfl))); (· (first | with_reducible assumption | rfl))) | ((with_reducible apply st1); (· (first | with_reducible assumption | (simp (disch := omega) only [go_sem, *]; try rfl))); (· simp); (· rfl)) | with_reducible refine ifT rfl ?_ | with_reducible refine ifF (not_not_intro rfl) ?_ | with_reducible refine ifT (by omega) ?_ | with_reducible refine ifF (by omega) ?_)
  refine ifD (fun h => herr1 (by omega)) (fun h1 => ?_)
  repeat (first | refine To.go ?_ | with_reducible refine And.intro (by first | omega | exact ⟨rfl, rfl⟩) ?_ | ((with_reducible apply opt); (· (first | with_reducible assumption | rfl))) | ((with_reducible apply ldrw); (· (first | with_reducible assumption | (simp (disch := omega) only [go_sem, *]; try rfl))); (· (first | with_reducible assumption | rfl))) | ((with_reducible apply ldro); (· (first | with_reducible assumption | (simp (disch := omega) only [go_sem, *]; try rfl))); (· (first | with_reducible assumption | rfl))) | ((with_reducible apply st1); (· (first | with_reducible assumption | (simp (disch := omega) only [go_sem, *]; try rfl))); (· simp); (· rfl)) | with_reducible refine ifT rfl ?_ | with_reducible refine ifF (not_not_intro rfl) ?_ | with_reducible refine ifT (by omega) ?_ | with_reducible refine ifF (by omega) ?_)
  refine ifD (fun h => herr1 (by omega)) (fun hw => ?_)
  repeat (first | refine To.go ?_ | with_reducible refine And.intro (by first | omega | exact ⟨rfl, rfl⟩) ?_ | ((with_reducible apply opt); (· (first | with_reducible assumption | rfl))) | ((with_reducible apply ldrw); (· (first | with_reducible assumption | (simp (disch := omega) only [go_sem, *]; try rfl))); (· (first | with_reducible assumption | rfl))) | ((with_reducible apply ldro); (· (first | with_reducible assumption | (simp (disch := omega) only [go_sem, *]; try rfl))); (· (first | with_reducible assumption | rfl))) | ((with_reducible apply st1); (· (first | with_reducible assumption | (simp (disch := omega) only [go_sem, *]; try rfl))); (· simp); (· rfl)) | with_reducible refine ifT rfl ?_ | with_reducible refine ifF (not_not_intro rfl) ?_ | with_reducible refine ifT (by omega) ?_ | with_reducible refine ifF (by omega) ?_)
  refine own.1.len ?_
  refine ifD (fun h => herr15 (by omega) (by omega)) (fun hfar => ?_)
  repeat (first | refine To.go ?_ | with_reducible refine And.intro (by first | omega | exact ⟨rfl, rfl⟩) ?_ | ((with_reducible apply opt); (· (first | with_reducible assumption | rfl))) | ((with_reducible apply ldrw); (· (first | with_reducible assumption | (simp (disch := omega) only [go_sem, *]; try rfl))); (· (first | with_reducible assumption | rfl))) | ((with_reducible apply ldro); (· (first | with_reducible assumption | (simp (disch := omega) only [go_sem, *]; try rfl))); (· (first | with_reducible assumption | rfl))) | ((with_reducible apply st1); (· (first | with_reducible assumption | (simp (disch := omega) only [go_sem, *]; try rfl))); (· simp); (· rfl)) | with_reducible refine ifT rfl ?_ | with_reducible refine ifF (not_not_intro rfl) ?_ | with_reducible refine ifT (by omega) ?_ | with_reducible refine ifF (by omega) ?_)
  have hk := hk (by omega) (by omega)
  obtain ⟨n, rfl⟩ := int_nat (show 0 ≤ ln by omega)
  obtain ⟨d, rfl⟩ := int_nat (show 0 ≤ ds by omega)
  rw [Int.toNat_natCast, Int.toNat_natCast] at hk
  refine loop2 (fun (k : Nat) (v' : AV) (x : Int) σ' => x = k ∧ k ≤ n ∧ Own 1 σ σ' v' (bl (copyN out d k)) (out.length + k) ∧ σ.Same σ' ∧ q < σ'.next ∧ q ∉ blkOf v' ∧ σ'.get q = some (.rw [.int .i64 b, .int .i64 (n : Nat), .int .i64 (d : Nat)])) (fun k => n - k) 0 ⟨rfl, by omega, own.same ((Mem.Same.refl σ8).bump _), s8.bump _, by simp only [Mem.next_bump]; omega, hqv, e⟩ ?_
  rintro j v' _ σ5 ⟨rfl, hj, own4, s4, hq4, hqv4, e4⟩
  unfold F_lz_Expand_l2
  rw [hq]
  refine ifD (fun hjn => ?_) (fun hjn => ?_)
  · refine own4.1.len ?_
    repeat (first | refine To.go ?_ | with_reducible refine And.intro (by first | omega | exact ⟨rfl, rfl⟩) ?_ | ((with_reducible apply opt); (· (first | with_reducible assumption | rfl))) | ((with_reducible apply ldrw); (· (first | with_reducible assumption | (simp (disch := omega) only [go_sem, *]; try rfl))); (· (first | with_reducible assumption | rfl))) | ((with_reducible apply ldro); (· (first | with_reducible assumption | (simp (disch := omega) only [go_sem, *]; try rfl))); (· (first | with_reducible assumption | rfl))) | ((with_reducible apply st1); (· (first | with_reducible assumption | (simp (disch := omega) only [go_sem, *]; try rfl))); (· simp); (· rfl)) | with_reducible refine ifT rfl ?_ | with_reducible refine ifF (not_not_intro rfl) ?_ | with_reducible refine ifT (by omega) ?_ | with_reducible refine ifF (by omega) ?_)
    have hclen := copyN_len out d j
    have hcs : copyN out d (j + 1) = copyN out d j ++ [(copyN out d j)[(copyN out d j).length - d]?.getD 0] := rfl
    obtain ⟨y, hy⟩ : ∃ y, copyN out d j = y := ⟨_, rfl⟩
    rw [hy] at own4 hclen hcs
    rw [hclen] at hcs
    have hlast := bl_last (out := y) (i := out.length + j - d) (by omega)
    obtain ⟨z, hz⟩ : ∃ z, y[out.length + j - d]?.getD 0 = z := ⟨_, rfl⟩
    rw [hz] at hcs hlast
    obtain ⟨u, rfl, hu, _⟩ := own4.1.sl (by omega)
    have hun := own4.2 u (by simp [blkOf])
    rw [show (((out.length + j : Nat) : Int) - (d : Int)) = ((out.length + j - d : Nat) : Int) from by omega]
    repeat (first | refine To.go ?_ | with_reducible refine And.intro (by first | omega | exact ⟨rfl, rfl⟩) ?_ | ((with_reducible apply opt); (· (first | with_reducible assumption | rfl))) | ((with_reducible apply ldrw); (· (first | with_reducible assumption | (simp (disch := omega) only [go_sem, *]; try rfl))); (· (first | with_reducible assumption | rfl))) | ((with_reducible apply ldro); (· (first | with_reducible assumption | (simp (disch := omega) only [go_sem, *]; try rfl))); (· (first | with_reducible assumption | rfl))) | ((with_reducible apply st1); (· (first | with_reducible assumption | (simp (disch := omega) only [go_sem, *]; try rfl))); (· simp); (· rfl)) | with_reducible refine ifT rfl ?_ | with_reducible refine ifF (not_not_intro rfl) ?_ | with_reducible refine ifT (by omega) ?_ | with_reducible refine ifF (by omega) ?_)
    refine own4.push (m := 1) s4 rfl (by omega) (by omega) (by omega) rfl rfl (bl_one _) (by omega) ?_ (by simp only [Mem.next_put, Mem.next_bump]; omega)
    intro v5 σ6 own5 s5 hn5 o5 hb5
    have o5n := o5.next
    repeat (first | refine To.go ?_ | with_reducible refine And.intro (by first | omega | exact ⟨rfl, rfl⟩) ?_ | ((with_reducible apply opt); (· (first | with_reducible assumption | rfl))) | ((with_reducible apply ldrw); (· (first | with_reducible assumption | (simp (disch := omega) only [go_sem, *]; try rfl))); (· (first | with_reducible assumption | rfl))) | ((with_reducible apply ldro); (· (first | with_reducible assumption | (simp (disch := omega) only [go_sem, *]; try rfl))); (· (first | with_reducible assumption | rfl))) | ((with_reducible apply st1); (· (first | with_reducible assumption | (simp (disch := omega) only [go_sem, *]; try rfl))); (· simp); (· rfl)) | with_reducible refine ifT rfl ?_ | with_reducible refine ifF (not_not_intro rfl) ?_ | with_reducible refine ifT (by omega) ?_ | with_reducible refine ifF (by omega) ?_)
    refine again ⟨j + 1, ⟨by omega, by omega, ?_, s5.bump _, by simp only [Mem.next_bump]; omega, fun h => ?_, ?_⟩, by omega⟩
    · rw [hcs, ← bl_append]
      exact own5.same ((Mem.Same.refl σ6).bump _)
    · rcases hb5 q h with h | h
      · exact hqv4 h
      · omega
    · exact o5.keep e4 hq4 hqv4
  · obtain rfl : j = n := by omega
    refine hk _ _ ?_ (s4.bump _)
    rw [copyN_len]; exact own4.same ((Mem.Same.refl σ5).bump _)
theorem lz_Expand {a : AV} {os : List Tok} {σ : Mem} (ha : RdS 3 σ a (tkl os) os.length) (hl : os.length ≤ 20000) :
    ACalls PG n_lz_Expand [a] σ fun v σ' => v = .tup [.str (exp [] os).1, .int .i64 (exp [] os).2] ∧ σ.Same σ' := by
  refine ok_lz_Expand fun live => ?_
  unfold F_lz_Expand
  have hla := ha.lt live
  refine ha.len ?_
  refine loop2 (fun (p : Nat × List UInt8) (v : AV) (i : Int) σ' => i = p.1 ∧ p.1 ≤ os.length ∧ p.2.length ≤ 258 * p.1 ∧ exp [] os = exp p.2 (os.drop p.1) ∧ Own 1 σ σ' v (bl p.2) p.2.length ∧ σ.Same σ') (fun p => os.length - p.1) (0, []) ⟨rfl, by omega, by simp, by simp, .nil 1 _ _, (Mem.Same.refl σ).bump _⟩ ?_
  rintro ⟨i, out⟩ v _ σ1 ⟨rfl, hi, hlen, hexp, own, s1⟩
  dsimp only at hi hlen hexp own ⊢
  unfold F_lz_Expand_l1
  have ha1 := ha.keep fun b hb => s1.get b (hla b hb)
  refine ifD (fun hlt => ?_) (fun hge => ?_)
  · have hil : i < os.length := by omega
    rw [exp_drop hil] at hexp
    obtain ⟨t, ht⟩ : ∃ t, os[i] = t := ⟨_, rfl⟩
    rw [ht] at hexp
    obtain ⟨p, c, rfl, hp, _⟩ := ha1.pos (by omega)
    repeat (first | refine To.go ?_ | with_reducible refine And.intro (by first | omega | exact ⟨rfl, rfl⟩) ?_ | ((with_reducible apply opt); (· (first | with_reducible assumption | rfl))) | ((with_reducible apply ldrw); (· (first | with_reducible assumption | (simp (disch := omega) only [go_sem, *]; try rfl))); (· (first | with_reducible assumption | rfl))) | ((with_reducible apply ldro); (· (first | with_reducible assumption | (simp (disch := omega) only [go_sem, *]; try rfl))); (· (first | with_reducible assumption | rfl))) | ((with_reducible apply st1); (· (first | with_reducible assumption | (simp (disch := omega) only [go_sem, *]; try rfl))); (· simp); (· rfl)) | with_reducible refine ifT rfl ?_ | with_reducible refine ifF (not_not_intro rfl) ?_ | with_reducible refine ifT (by omega) ?_ | with_reducible refine ifF (by omega) ?_)
    refine ldn_tok hp hil ?_
    rw [ht]
    repeat (first | refine To.go ?_ | with_reducible refine And.intro (by first | omega | exact ⟨rfl, rfl⟩) ?_ | ((with_reducible apply opt); (· (first | with_reducible assumption | rfl))) | ((with_reducible apply ldrw); (· (first | with_reducible assumption | (simp (disch := omega) only [go_sem, *]; try rfl))); (· (first | with_reducible assumption | rfl))) | ((with_reducible apply ldro); (· (first | with_reducible assumption | (simp (disch := omega) only [go_sem, *]; try rfl))); (· (first | with_reducible assumption | rfl))) | ((with_reducible apply st1); (· (first | with_reducible assumption | (simp (disch := omega) only [go_sem, *]; try rfl))); (· simp); (· rfl)) | with_reducible refine ifT rfl ?_ | with_reducible refine ifF (not_not_intro rfl) ?_ | with_reducible refine ifT (by omega) ?_ | with_reducible refine ifF (by omega) ?_)
    refine stn gS' (by simp) rfl rfl ?_
    obtain ⟨σ2, h2⟩ : ∃ σ2, σ2 = ((σ1.bump 5).put (σ1.next + 3) (some (.rw [.int .i64 0, .int .i64 0, .int .i64 0]))).put (σ1.next + 3) (some (.rw (setAt [.int .i64 0, .int .i64 0, .int .i64 0] 0 (tokC t)))) := ⟨_, rfl⟩
    have hn2 : σ2.next = σ1.next + 5 := by rw [h2]; rfl
    have e2 : σ2.get (σ1.next + 3) = some (.rw (tokC t)) := by rw [h2, gS']; rfl
    have s12 : σ1.Same σ2 := by rw [h2]; repeat (with_reducible first | assumption | exact Mem.Only.refl _ _ | exact Mem.Same.refl _ | refine Mem.Only.bump ?_ _ | refine Mem.Only.put ?_ (by simp) _ | refine Mem.Only.put ?_ (.inr (by first | omega | (simp only [Mem.next_bump, Mem.next_put]; omega))) _ | refine Mem.Same.bump ?_ _ | refine Mem.Same.put ?_ (by first | omega | (simp only [Mem.next_bump, Mem.next_put]; omega)) _)
    rw [← h2]
    refine ldnq e2 rfl (by simp [tokC]) ?_
    rw [List.drop_zero, show (tokC t).take 3 = tokC t from rfl]
    have own3 := own.same s12
    have s03 := s1.trans s12
    have hexp' : right t ↔ (t.2.1 = 0 ∧ t.2.2 = 0 ∧ 0 ≤ t.1 ∧ t.1 ≤ 255) ∨ okC t := by
      unfold right okC; split <;> omega
    obtain ⟨q, hq⟩ : ∃ q, σ1.next + 3 = q := ⟨_, rfl⟩
    have hqv : q ∉ blkOf v := fun h => by have := (own.2 _ h).2; omega
    have hqn : q < σ2.next := by omega
    rw [hq] at e2 ⊢
    clear h2
    obtain ⟨b, ln, ds⟩ := t
    unfold tokC at e2 ⊢
    dsimp only at hexp hexp' e2 ⊢
    have hokC : okC (b, ln, ds) ↔ b = 0 ∧ 3 ≤ ln ∧ ln ≤ 258 ∧ 1 ≤ ds ∧ ds ≤ 32768 := Iff.rfl
    let R : AV → Mem → Prop := fun v' σ' => ∃ out' : List UInt8, out'.length ≤ 258 * (i + 1) ∧ exp [] os = exp out' (os.drop (i + 1)) ∧ Own 1 σ σ' v' (bl out') out'.length ∧ σ.Same σ'
    have tail := fun (hlit : ¬ (ln = 0 ∧ ds = 0 ∧ 0 ≤ b ∧ b ≤ 255)) => lz_tail (Q := fun v σ' => v = .tup [.str (exp [] os).1, .int .i64 (exp [] os).2] ∧ σ.Same σ') (k := R) (σ4 := σ1) hq e2 own3 s03 hqn hqv (by omega)
      (fun h => by
        rw [if_neg (fun hr => by rcases hexp'.1 hr with h1 | h1; exact hlit h1; exact h h1)] at hexp
        rw [hexp]; exact ⟨rfl, s03.bump _⟩)
      (fun h hf => by
        rw [if_pos (hexp'.2 (.inr h)), if_neg (by rw [hokC] at h; omega), if_pos hf] at hexp
        rw [hexp]; exact ⟨rfl, s03.bump _⟩)
      (fun h hf v' σ' o s => by
        rw [if_pos (hexp'.2 (.inr h)), if_neg (by rw [hokC] at h; omega), if_neg hf] at hexp
        refine ⟨_, ?_, hexp, o, s⟩
        rw [copyN_len]
        rw [hokC] at h; omega)
    rw [hq] at tail
    have next : ∀ v' σ', R v' σ' → F_lz_Expand_j1 (fun x1 x2 σ' => Again (∃ j : Nat × List UInt8, ((x2 = j.1 ∧ j.1 ≤ os.length ∧ j.2.length ≤ 258 * j.1 ∧ exp [] os = exp j.2 (os.drop j.1) ∧ Own 1 σ σ' x1 (bl j.2) j.2.length ∧ σ.Same σ') ∧ os.length - j.1 < os.length - i))) i v' σ' := by
      rintro v' σ2 ⟨out', h1, h2, h3, h4⟩
      unfold F_lz_Expand_j1
      repeat (first | refine To.go ?_ | with_reducible refine And.intro (by first | omega | exact ⟨rfl, rfl⟩) ?_ | ((with_reducible apply opt); (· (first | with_reducible assumption | rfl))) | ((with_reducible apply ldrw); (· (first | with_reducible assumption | (simp (disch := omega) only [go_sem, *]; try rfl))); (· (first | with_reducible assumption | rfl))) | ((with_reducible apply ldro); (· (first | with_reducible assumption | (simp (disch := omega) only [go_sem, *]; try rfl))); (· (first | with_reducible assumption | rfl))) | ((with_reducible apply st1); (· (first | with_reducible assumption | (simp (disch := omega) only [go_sem, *]; try rfl))); (· simp); (· rfl)) | with_reducible refine ifT rfl ?_ | with_reducible refine ifF (not_not_intro rfl) ?_ | with_reducible refine ifT (by omega) ?_ | with_reducible refine ifF (by omega) ?_)
      exact again ⟨(i + 1, out'), ⟨by dsimp only; omega, by dsimp only; omega, h1, h2, h3.same ((Mem.Same.refl σ2).bump _), h4.bump _⟩, by dsimp only; omega⟩
    repeat (first | refine To.go ?_ | with_reducible refine And.intro (by first | omega | exact ⟨rfl, rfl⟩) ?_ | ((with_reducible apply opt); (· (first | with_reducible assumption | rfl))) | ((with_reducible apply ldrw); (· (first | with_reducible assumption | (simp (disch := omega) only [go_sem, *]; try rfl))); (· (first | with_reducible assumption | rfl))) | ((with_reducible apply ldro); (· (first | with_reducible assumption | (simp (disch := omega) only [go_sem, *]; try rfl))); (· (first | with_reducible assumption | rfl))) | ((with_reducible apply st1); (· (first | with_reducible assumption | (simp (disch := omega) only [go_sem, *]; try rfl))); (· simp); (· rfl)) | with_reducible refine ifT rfl ?_ | with_reducible refine ifF (not_not_intro rfl) ?_ | with_reducible refine ifT (by omega) ?_ | with_reducible refine ifF (by omega) ?_)
    refine ifI (fun hcase => ?_) (fun hcase => ?_)
    · simp at hcase
      repeat (first | refine To.go ?_ | with_reducible refine And.intro (by first | omega | exact ⟨rfl, rfl⟩) ?_ | ((with_reducible apply opt); (· (first | with_reducible assumption | rfl))) | ((with_reducible apply ldrw); (· (first | with_reducible assumption | (simp (disch := omega) only [go_sem, *]; try rfl))); (· (first | with_reducible assumption | rfl))) | ((with_reducible apply ldro); (· (first | with_reducible assumption | (simp (disch := omega) only [go_sem, *]; try rfl))); (· (first | with_reducible assumption | rfl))) | ((with_reducible apply st1); (· (first | with_reducible assumption | (simp (disch := omega) only [go_sem, *]; try rfl))); (· simp); (· rfl)) | with_reducible refine ifT rfl ?_ | with_reducible refine ifF (not_not_intro rfl) ?_ | with_reducible refine ifT (by omega) ?_ | with_reducible refine ifF (by omega) ?_)
      refine ifD (fun hb0 => ?_) (fun hb0 => ?_)
      · repeat (first | refine To.go ?_ | with_reducible refine And.intro (by first | omega | exact ⟨rfl, rfl⟩) ?_ | ((with_reducible apply opt); (· (first | with_reducible assumption | rfl))) | ((with_reducible apply ldrw); (· (first | with_reducible assumption | (simp (disch := omega) only [go_sem, *]; try rfl))); (· (first | with_reducible assumption | rfl))) | ((with_reducible apply ldro); (· (first | with_reducible assumption | (simp (disch := omega) only [go_sem, *]; try rfl))); (· (first | with_reducible assumption | rfl))) | ((with_reducible apply st1); (· (first | with_reducible assumption | (simp (disch := omega) only [go_sem, *]; try rfl))); (· simp); (· rfl)) | with_reducible refine ifT rfl ?_ | with_reducible refine ifF (not_not_intro rfl) ?_ | with_reducible refine ifT (by omega) ?_ | with_reducible refine ifF (by omega) ?_)
        refine join1 R ?_ next
        refine ifD (fun hb1 => ?_) (fun hb1 => ?_)
        · rw [if_pos (hexp'.2 (.inl (by omega))), if_pos (by omega)] at hexp
          repeat (first | refine To.go ?_ | with_reducible refine And.intro (by first | omega | exact ⟨rfl, rfl⟩) ?_ | ((with_reducible apply opt); (· (first | with_reducible assumption | rfl))) | ((with_reducible apply ldrw); (· (first | with_reducible assumption | (simp (disch := omega) only [go_sem, *]; try rfl))); (· (first | with_reducible assumption | rfl))) | ((with_reducible apply ldro); (· (first | with_reducible assumption | (simp (disch := omega) only [go_sem, *]; try rfl))); (· (first | with_reducible assumption | rfl))) | ((with_reducible apply st1); (· (first | with_reducible assumption | (simp (disch := omega) only [go_sem, *]; try rfl))); (· simp); (· rfl)) | with_reducible refine ifT rfl ?_ | with_reducible refine ifF (not_not_intro rfl) ?_ | with_reducible refine ifT (by omega) ?_ | with_reducible refine ifF (by omega) ?_)
          refine own3.push (m := 1) s03 rfl (by omega) (by omega) (by omega) rfl rfl (bl_one _) (by omega) ?_ (by simp only [Mem.next_put, Mem.next_bump]; omega)
          intro v' σ4 own4 s4 _ _ _
          rw [bl_push out (by omega)] at own4
          exact ⟨_, by rw [List.length_append]; simp; omega, hexp, by rw [List.length_append]; exact own4, s4⟩
        · exact tail (by omega)
      · exact join1 R (tail (by omega)) next
    · refine join1 R (tail (fun h => ?_)) next
      simp at hcase
      omega
  · rw [exp_end (by omega)] at hexp
    rw [hexp]
    refine OwnS.bstr (own.1.keep (σ' := σ1.bump 5) fun b _ => rfl) ?_
    exact ⟨rfl, s1.bump _⟩
end Go.Vit
