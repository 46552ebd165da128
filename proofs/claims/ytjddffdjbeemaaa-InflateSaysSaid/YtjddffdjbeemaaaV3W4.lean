/- The stream: small codes, runs, lengths and distances. -/
import Derived.Test.YtjddffdjbeemaaaV3W3
set_option linter.unusedVariables false
set_option linter.unusedSimpArgs false
set_option linter.unusedSimpArgs false
set_option maxRecDepth 20000
namespace Go.Vit
open Go.Proofs
section
variable {σ σ' : Mem} {o : List Nat} {x r p : Nat} {s : ByteArray} {most : Int} {out : List UInt8} {v : AV}
theorem inflate_length {c : Nat} (h : Smv σ o x r s p most out v) (hc : 257 ≤ c) (hc2 : c < 2 ^ 32) : ACalls PG n_inflate_stream_length [.ptr x 0, .int .i64 (c : Nat)] σ fun w σ' => Grow o o σ σ' ∧ match rLen c s p with
    | .ok (n, q) => w = .tup [.int .i64 (n : Nat), .int .i64 0] ∧ n ≤ 2 ^ 20 ∧ Smv σ' o x r s q most out v
    | .error e => ∃ k, w = .tup [.int .i64 k, .int .i64 e] := by
  refine ok_inflate_stream_length fun live => ?_
  unfold F_inflate_stream_length rLen
  refine iW_of (by omega) ?_
  have g0 := h.g0
  refine ifD (fun h1 => ?_) (fun h1 => ?_)
  · rw [if_pos (by omega)]
    exact ⟨g0.bump _, _, rfl⟩
  rw [if_neg (by omega)]
  refine ifD (fun h2 => ?_) (fun h2 => ?_)
  · rw [if_pos (by omega)]
    exact ⟨g0.bump _, rfl, by omega, h.bump _⟩
  rw [if_neg (by omega)]
  refine ifD (fun h3 => ?_) (fun h3 => ?_)
  · rw [if_pos (by omega)]
    refine iW_of (by omega) ?_
    exact ⟨g0.bump _, by rw [show ((c : Int) - 257 + 3) = ((c - 257 + 3 : Nat) : Int) from by omega], by omega, h.bump _⟩
  rw [if_neg (by omega)]
  obtain ⟨d, hd⟩ : ∃ d, c - 257 = d := ⟨_, rfl⟩
  rw [hd, show ((c : Int) - 257) = (d : Nat) from by omega]
  have hd8 : 8 ≤ d ∧ d < 28 := by omega
  obtain ⟨m, hm⟩ : ∃ m, d / 4 - 1 = m := ⟨_, rfl⟩
  rw [hm]
  have hm5 : 1 ≤ m ∧ m ≤ 5 := by omega
  have hp : 2 ^ m ≤ 2 ^ 5 := pow_le hm5.2
  repeat (first | refine To.go ?_ | with_reducible refine And.intro (by first | omega | exact ⟨rfl, rfl⟩) ?_ | ((with_reducible apply opt); (· (first | with_reducible assumption | rfl))) | ((with_reducible apply ldrw); (· (first | with_reducible assumption | (simp (disch := omega) only [go_sem, *]; try rfl))); (· (first | with_reducible assumption | rfl))) | ((with_reducible apply ldro); (· (first | with_reducible assumption | (simp (disch := omega) only [go_sem, *]; try rfl))); (· (first | with_reducible assumption | rfl))) | ((with_reducible apply st1); (· (first | with_reducible assumption | (simp (disch := omega) only [go_sem, *]; try rfl))); (· simp); (· rfl)) | with_reducible refine ifT rfl ?_ | with_reducible refine ifF (not_not_intro rfl) ?_ | with_reducible refine ifT (by omega) ?_ | with_reducible refine ifF (by omega) ?_)
  rw [show ((d : Int) / 4 - 1) = (m : Nat) from by omega]
  refine ldrw h.gx (v := .ptr r 0) rfl ?_
  refine callW_of (Smv.bits (n := m) (h.bump 29) (by omega)) ?_
  rintro w σ1 ⟨g1, hw⟩
  replace g1 := g1.ob
  have hmul : (4 + d % 4) * 2 ^ m ≤ 7 * 2 ^ m := Nat.mul_le_mul_right _ (by omega)
  have hcast : (4 + (d : Int) % 4) * 2 ^ m = (((4 + d % 4) * 2 ^ m : Nat) : Int) := by push_cast; rfl
  obtain ⟨k, hk⟩ : ∃ k, (4 + d % 4) * 2 ^ m = k := ⟨_, rfl⟩
  rw [hk] at hmul hcast
  rw [hk]
  cases e : rBits m s p with
  | error z =>
    rw [e] at hw
    subst hw
    have hz := Fr.ne (.bits m) h.le e
    have hz3 : z = 3 := by unfold rBits at e; split at e; injection e with e; exact e.symm; exact absurd e (by simp)
    rw [rBind_er e]
    repeat (first | refine To.go ?_ | with_reducible refine And.intro (by first | omega | exact ⟨rfl, rfl⟩) ?_ | ((with_reducible apply opt); (· (first | with_reducible assumption | rfl))) | ((with_reducible apply ldrw); (· (first | with_reducible assumption | (simp (disch := omega) only [go_sem, *]; try rfl))); (· (first | with_reducible assumption | rfl))) | ((with_reducible apply ldro); (· (first | with_reducible assumption | (simp (disch := omega) only [go_sem, *]; try rfl))); (· (first | with_reducible assumption | rfl))) | ((with_reducible apply st1); (· (first | with_reducible assumption | (simp (disch := omega) only [go_sem, *]; try rfl))); (· simp); (· rfl)) | with_reducible refine ifT rfl ?_ | with_reducible refine ifF (not_not_intro rfl) ?_ | with_reducible refine ifT (by omega) ?_ | with_reducible refine ifF (by omega) ?_)
    rw [Int.toNat_natCast, hcast]
    repeat (first | refine To.go ?_ | with_reducible refine And.intro (by first | omega | exact ⟨rfl, rfl⟩) ?_ | ((with_reducible apply opt); (· (first | with_reducible assumption | rfl))) | ((with_reducible apply ldrw); (· (first | with_reducible assumption | (simp (disch := omega) only [go_sem, *]; try rfl))); (· (first | with_reducible assumption | rfl))) | ((with_reducible apply ldro); (· (first | with_reducible assumption | (simp (disch := omega) only [go_sem, *]; try rfl))); (· (first | with_reducible assumption | rfl))) | ((with_reducible apply st1); (· (first | with_reducible assumption | (simp (disch := omega) only [go_sem, *]; try rfl))); (· simp); (· rfl)) | with_reducible refine ifT rfl ?_ | with_reducible refine ifF (not_not_intro rfl) ?_ | with_reducible refine ifT (by omega) ?_ | with_reducible refine ifF (by omega) ?_)
    exact ⟨g1.bump _, _, rfl⟩
  | ok y =>
    obtain ⟨a, q⟩ := y
    rw [e] at hw
    obtain ⟨rfl, h4⟩ := hw
    rw [rBind_ok e]
    have ha := bits_lt e
    repeat (first | refine To.go ?_ | with_reducible refine And.intro (by first | omega | exact ⟨rfl, rfl⟩) ?_ | ((with_reducible apply opt); (· (first | with_reducible assumption | rfl))) | ((with_reducible apply ldrw); (· (first | with_reducible assumption | (simp (disch := omega) only [go_sem, *]; try rfl))); (· (first | with_reducible assumption | rfl))) | ((with_reducible apply ldro); (· (first | with_reducible assumption | (simp (disch := omega) only [go_sem, *]; try rfl))); (· (first | with_reducible assumption | rfl))) | ((with_reducible apply st1); (· (first | with_reducible assumption | (simp (disch := omega) only [go_sem, *]; try rfl))); (· simp); (· rfl)) | with_reducible refine ifT rfl ?_ | with_reducible refine ifF (not_not_intro rfl) ?_ | with_reducible refine ifT (by omega) ?_ | with_reducible refine ifF (by omega) ?_)
    rw [Int.toNat_natCast, hcast]
    repeat (first | refine To.go ?_ | with_reducible refine And.intro (by first | omega | exact ⟨rfl, rfl⟩) ?_ | ((with_reducible apply opt); (· (first | with_reducible assumption | rfl))) | ((with_reducible apply ldrw); (· (first | with_reducible assumption | (simp (disch := omega) only [go_sem, *]; try rfl))); (· (first | with_reducible assumption | rfl))) | ((with_reducible apply ldro); (· (first | with_reducible assumption | (simp (disch := omega) only [go_sem, *]; try rfl))); (· (first | with_reducible assumption | rfl))) | ((with_reducible apply st1); (· (first | with_reducible assumption | (simp (disch := omega) only [go_sem, *]; try rfl))); (· simp); (· rfl)) | with_reducible refine ifT rfl ?_ | with_reducible refine ifF (not_not_intro rfl) ?_ | with_reducible refine ifT (by omega) ?_ | with_reducible refine ifF (by omega) ?_)
    refine ⟨g1.bump _, ?_, by omega, h4.bump _⟩
    rw [show ((k : Int) + 3 + a) = ((k + 3 + a : Nat) : Int) from by omega]
theorem inflate_distance {c : Nat} (h : Smv σ o x r s p most out v) (hc2 : c < 2 ^ 32) : ACalls PG n_inflate_stream_distance [.ptr x 0, .int .i64 (c : Nat)] σ fun w σ' => Grow o o σ σ' ∧ match rDist c s p with
    | .ok (n, q) => w = .tup [.int .i64 (n : Nat), .int .i64 0] ∧ 1 ≤ n ∧ n ≤ 2 ^ 20 ∧ Smv σ' o x r s q most out v
    | .error e => ∃ k, w = .tup [.int .i64 k, .int .i64 e] := by
  refine ok_inflate_stream_distance fun live => ?_
  unfold F_inflate_stream_distance rDist
  have g0 := h.g0
  refine ifD (fun h1 => ?_) (fun h1 => ?_)
  · rw [if_pos (by omega)]
    exact ⟨g0.bump _, _, rfl⟩
  rw [if_neg (by omega)]
  refine ifD (fun h3 => ?_) (fun h3 => ?_)
  · rw [if_pos (by omega)]
    refine iW_of (by omega) ?_
    exact ⟨g0.bump _, rfl, by omega, by omega, h.bump _⟩
  rw [if_neg (by omega)]
  have hd8 : 4 ≤ c ∧ c < 30 := by omega
  obtain ⟨m, hm⟩ : ∃ m, c / 2 - 1 = m := ⟨_, rfl⟩
  rw [hm]
  have hm5 : 1 ≤ m ∧ m ≤ 13 := by omega
  have hp : 2 ^ m ≤ 2 ^ 13 := pow_le hm5.2
  repeat (first | refine To.go ?_ | with_reducible refine And.intro (by first | omega | exact ⟨rfl, rfl⟩) ?_ | ((with_reducible apply opt); (· (first | with_reducible assumption | rfl))) | ((with_reducible apply ldrw); (· (first | with_reducible assumption | (simp (disch := omega) only [go_sem, *]; try rfl))); (· (first | with_reducible assumption | rfl))) | ((with_reducible apply ldro); (· (first | with_reducible assumption | (simp (disch := omega) only [go_sem, *]; try rfl))); (· (first | with_reducible assumption | rfl))) | ((with_reducible apply st1); (· (first | with_reducible assumption | (simp (disch := omega) only [go_sem, *]; try rfl))); (· simp); (· rfl)) | with_reducible refine ifT rfl ?_ | with_reducible refine ifF (not_not_intro rfl) ?_ | with_reducible refine ifT (by omega) ?_ | with_reducible refine ifF (by omega) ?_)
  rw [show ((c : Int) / 2 - 1) = (m : Nat) from by omega]
  refine ldrw h.gx (v := .ptr r 0) rfl ?_
  refine callW_of (Smv.bits (n := m) (h.bump 23) (by omega)) ?_
  rintro w σ1 ⟨g1, hw⟩
  replace g1 := g1.ob
  have hmul : (2 + c % 2) * 2 ^ m ≤ 3 * 2 ^ m := Nat.mul_le_mul_right _ (by omega)
  have hcast : (2 + (c : Int) % 2) * 2 ^ m = (((2 + c % 2) * 2 ^ m : Nat) : Int) := by push_cast; rfl
  obtain ⟨k, hk⟩ : ∃ k, (2 + c % 2) * 2 ^ m = k := ⟨_, rfl⟩
  rw [hk] at hmul hcast
  rw [hk]
  cases e : rBits m s p with
  | error z =>
    rw [e] at hw
    subst hw
    have hz := Fr.ne (.bits m) h.le e
    have hz3 : z = 3 := by unfold rBits at e; split at e; injection e with e; exact e.symm; exact absurd e (by simp)
    rw [rBind_er e]
    repeat (first | refine To.go ?_ | with_reducible refine And.intro (by first | omega | exact ⟨rfl, rfl⟩) ?_ | ((with_reducible apply opt); (· (first | with_reducible assumption | rfl))) | ((with_reducible apply ldrw); (· (first | with_reducible assumption | (simp (disch := omega) only [go_sem, *]; try rfl))); (· (first | with_reducible assumption | rfl))) | ((with_reducible apply ldro); (· (first | with_reducible assumption | (simp (disch := omega) only [go_sem, *]; try rfl))); (· (first | with_reducible assumption | rfl))) | ((with_reducible apply st1); (· (first | with_reducible assumption | (simp (disch := omega) only [go_sem, *]; try rfl))); (· simp); (· rfl)) | with_reducible refine ifT rfl ?_ | with_reducible refine ifF (not_not_intro rfl) ?_ | with_reducible refine ifT (by omega) ?_ | with_reducible refine ifF (by omega) ?_)
    rw [Int.toNat_natCast, hcast]
    repeat (first | refine To.go ?_ | with_reducible refine And.intro (by first | omega | exact ⟨rfl, rfl⟩) ?_ | ((with_reducible apply opt); (· (first | with_reducible assumption | rfl))) | ((with_reducible apply ldrw); (· (first | with_reducible assumption | (simp (disch := omega) only [go_sem, *]; try rfl))); (· (first | with_reducible assumption | rfl))) | ((with_reducible apply ldro); (· (first | with_reducible assumption | (simp (disch := omega) only [go_sem, *]; try rfl))); (· (first | with_reducible assumption | rfl))) | ((with_reducible apply st1); (· (first | with_reducible assumption | (simp (disch := omega) only [go_sem, *]; try rfl))); (· simp); (· rfl)) | with_reducible refine ifT rfl ?_ | with_reducible refine ifF (not_not_intro rfl) ?_ | with_reducible refine ifT (by omega) ?_ | with_reducible refine ifF (by omega) ?_)
    exact ⟨g1.bump _, _, rfl⟩
  | ok y =>
    obtain ⟨a, q⟩ := y
    rw [e] at hw
    obtain ⟨rfl, h4⟩ := hw
    rw [rBind_ok e]
    have ha := bits_lt e
    repeat (first | refine To.go ?_ | with_reducible refine And.intro (by first | omega | exact ⟨rfl, rfl⟩) ?_ | ((with_reducible apply opt); (· (first | with_reducible assumption | rfl))) | ((with_reducible apply ldrw); (· (first | with_reducible assumption | (simp (disch := omega) only [go_sem, *]; try rfl))); (· (first | with_reducible assumption | rfl))) | ((with_reducible apply ldro); (· (first | with_reducible assumption | (simp (disch := omega) only [go_sem, *]; try rfl))); (· (first | with_reducible assumption | rfl))) | ((with_reducible apply st1); (· (first | with_reducible assumption | (simp (disch := omega) only [go_sem, *]; try rfl))); (· simp); (· rfl)) | with_reducible refine ifT rfl ?_ | with_reducible refine ifF (not_not_intro rfl) ?_ | with_reducible refine ifT (by omega) ?_ | with_reducible refine ifF (by omega) ?_)
    rw [Int.toNat_natCast, hcast]
    repeat (first | refine To.go ?_ | with_reducible refine And.intro (by first | omega | exact ⟨rfl, rfl⟩) ?_ | ((with_reducible apply opt); (· (first | with_reducible assumption | rfl))) | ((with_reducible apply ldrw); (· (first | with_reducible assumption | (simp (disch := omega) only [go_sem, *]; try rfl))); (· (first | with_reducible assumption | rfl))) | ((with_reducible apply ldro); (· (first | with_reducible assumption | (simp (disch := omega) only [go_sem, *]; try rfl))); (· (first | with_reducible assumption | rfl))) | ((with_reducible apply st1); (· (first | with_reducible assumption | (simp (disch := omega) only [go_sem, *]; try rfl))); (· simp); (· rfl)) | with_reducible refine ifT rfl ?_ | with_reducible refine ifF (not_not_intro rfl) ?_ | with_reducible refine ifT (by omega) ?_ | with_reducible refine ifF (by omega) ?_)
    refine ⟨g1.bump _, ?_, by omega, by omega, h4.bump _⟩
    rw [show ((k : Int) + 1 + a) = ((k + 1 + a : Nat) : Int) from by omega]
def fixF (j : Nat) : Int := if 280 ≤ j ∨ j < 144 then 8 else if j < 256 then 9 else 7
theorem fixL_eq : fixL = arr fixF 288 := rfl
theorem inflate_fixed (σ : Mem) : ACalls PG n_inflate_fixed [] σ fun w σ' => ∃ b c, w = .tup [.slice b 0 288 (.ex 288), .slice c 0 32 (.ex 32)] ∧ σ'.get b = some (.rw (ic fixL)) ∧ σ'.get c = some (.rw (ic fixD)) ∧ (σ.next ≤ b ∧ b < σ'.next) ∧ (σ.next ≤ c ∧ c < σ'.next) ∧ σ.Same σ' := by
  refine ok_inflate_fixed fun live => ?_
  unfold F_inflate_fixed
  repeat (first | refine To.go ?_ | with_reducible refine And.intro (by first | omega | exact ⟨rfl, rfl⟩) ?_ | ((with_reducible apply opt); (· (first | with_reducible assumption | rfl))) | ((with_reducible apply ldrw); (· (first | with_reducible assumption | (simp (disch := omega) only [go_sem, *]; try rfl))); (· (first | with_reducible assumption | rfl))) | ((with_reducible apply ldro); (· (first | with_reducible assumption | (simp (disch := omega) only [go_sem, *]; try rfl))); (· (first | with_reducible assumption | rfl))) | ((with_reducible apply st1); (· (first | with_reducible assumption | (simp (disch := omega) only [go_sem, *]; try rfl))); (· simp); (· rfl)) | with_reducible refine ifT rfl ?_ | with_reducible refine ifF (not_not_intro rfl) ?_ | with_reducible refine ifT (by omega) ?_ | with_reducible refine ifF (by omega) ?_)
  obtain ⟨b, hb⟩ : ∃ b, σ.next + 2 = b := ⟨_, rfl⟩
  obtain ⟨c, hc⟩ : ∃ c, σ.next + 3 = c := ⟨_, rfl⟩
  rw [hb, hc]
  refine loop1 (fun (i : Nat) (y : Int) σ' => y = i ∧ i ≤ 288 ∧ σ.Same σ' ∧ c < σ'.next ∧ σ'.get b = some (.rw (ic (arr (fun j => if j < i then fixF j else 0) 288))) ∧ σ'.get c = some (.rw (ic (arr (fun _ => 0) 32)))) (fun i => 288 - i) 0 ⟨rfl, by omega, by repeat (with_reducible first | assumption | exact Mem.Only.refl _ _ | exact Mem.Same.refl _ | refine Mem.Only.bump ?_ _ | refine Mem.Only.put ?_ (by simp) _ | refine Mem.Only.put ?_ (.inr (by first | omega | (simp only [Mem.next_bump, Mem.next_put]; omega))) _ | refine Mem.Same.bump ?_ _ | refine Mem.Same.put ?_ (by first | omega | (simp only [Mem.next_bump, Mem.next_put]; omega)) _), by simp only [Mem.next_bump, Mem.next_put]; omega, ?_, ?_⟩ ?_
  · rw [Mem.get_bump, Mem.get_put_ne _ (by omega), gS']
    rw [arr_ext (f := fun j => if j < 0 then fixF j else 0) (g := fun _ => 0) fun j hj => if_neg (by omega)]; rfl
  · rw [Mem.get_bump, gS']; rfl
  rintro i _ σ1 ⟨rfl, hi, s1, n1, e1, e2⟩
  unfold F_inflate_fixed_l1
  have hset : ∀ (z : Int), z = fixF i → i < 288 → (arr (fun j => if j < i then fixF j else 0) 288).set i z = arr (fun j => if j < i + 1 then fixF j else 0) 288 := by
    intro z hz hi
    rw [arr_set, arr_ext fun j hj => ?_]
    by_cases hji : j = i
    · subst hji; rw [if_pos rfl, if_pos (by omega), hz]
    · rw [if_neg hji]
      by_cases h' : j < i
      · rw [if_pos h', if_pos (by omega)]
      · rw [if_neg h', if_neg (by omega)]
  rw [hb, hc]
  have hrest : ∀ (z : Int) (k : Nat), i < 288 → z = fixF i → ∀ σ2, σ2 = (σ1.bump k).put b (some (.rw (ic ((arr (fun j => if j < i then fixF j else 0) 288).set i z)))) → (iW ((i : Int) + 1) fun v7 => (fun (x1 : Int) (σ_1 : Mem) => Again (∃ j : Nat, (x1 = j ∧ j ≤ 288 ∧ σ.Same σ_1 ∧ c < σ_1.next ∧ σ_1.get b = some (.rw (ic (arr (fun j' => if j' < j then fixF j' else 0) 288))) ∧ σ_1.get c = some (.rw (ic (arr (fun _ => 0) 32)))) ∧ 288 - j < 288 - i)) v7 (σ2.bump 2)) := by
    rintro z k hi hz σ2 rfl
    refine iW_of (by omega) ?_
    refine again ⟨i + 1, ⟨by omega, by omega, by repeat (with_reducible first | assumption | exact Mem.Only.refl _ _ | exact Mem.Same.refl _ | refine Mem.Only.bump ?_ _ | refine Mem.Only.put ?_ (by simp) _ | refine Mem.Only.put ?_ (.inr (by first | omega | (simp only [Mem.next_bump, Mem.next_put]; omega))) _ | refine Mem.Same.bump ?_ _ | refine Mem.Same.put ?_ (by first | omega | (simp only [Mem.next_bump, Mem.next_put]; omega)) _), by simp only [Mem.next_bump, Mem.next_put]; omega, ?_, ?_⟩, by omega⟩
    · rw [Mem.get_bump, gS', hset z hz hi]
    · rw [Mem.get_bump, Mem.get_put_ne _ (by omega)]; exact e2
  refine ifD (fun hlt => ?_) (fun hge => ?_)
  · have hil : i < 288 := by omega
    refine ifD (fun h1 => ?_) (fun h1 => ?_)
    · refine joinI ?_
      unfold F_inflate_fixed_j1
      refine wrI (m := i) (σ := σ1.bump 14) e1 (arr_len _ _) rfl (by simpa using hil) ?_
      exact hrest 8 14 hil (by unfold fixF; rw [if_pos (by omega)]) _ rfl
    refine joinI ?_
    unfold F_inflate_fixed_j2
    refine ifD (fun h2 => ?_) (fun h2 => ?_)
    · refine wrI (m := i) (σ := σ1.bump 14) e1 (arr_len _ _) rfl (by simpa using hil) ?_
      exact hrest 8 14 hil (by unfold fixF; rw [if_pos (by omega)]) _ rfl
    refine joinI ?_
    unfold F_inflate_fixed_j3
    refine ifD (fun h3 => ?_) (fun h3 => ?_)
    · refine wrI (m := i) (σ := σ1.bump 17) e1 (arr_len _ _) rfl (by simpa using hil) ?_
      exact hrest 9 17 hil (by unfold fixF; rw [if_neg (by omega), if_pos (by omega)]) _ rfl
    · refine wrI (m := i) (σ := σ1.bump 17) e1 (arr_len _ _) rfl (by simpa using hil) ?_
      exact hrest 7 17 hil (by unfold fixF; rw [if_neg (by omega), if_neg (by omega)]) _ rfl
  · obtain rfl : i = 288 := by omega
    have e1 : σ1.get b = some (.rw (ic fixL)) := by
      rw [e1, fixL_eq]; rw [arr_ext fun j hj => if_pos hj]
    refine To.go ?_
    refine loop1 (fun (i : Nat) (y : Int) σ' => y = i ∧ i ≤ 32 ∧ σ.Same σ' ∧ c < σ'.next ∧ σ'.get b = some (.rw (ic fixL)) ∧ σ'.get c = some (.rw (ic (arr (fun j => if j < i then 5 else 0) 32)))) (fun i => 32 - i) 0 ⟨rfl, by omega, s1.bump _, by simp only [Mem.next_bump]; omega, e1, ?_⟩ ?_
    · rw [Mem.get_bump, e2, arr_ext fun j hj => ?_]
      rw [if_neg (by omega)]
    clear e1 e2 s1 hset hrest n1 hi hge
    rintro i _ σ1 ⟨rfl, hi, s1, n1, e1, e2⟩
    unfold F_inflate_fixed_l2
    rw [hb, hc]
    refine ifD (fun hlt => ?_) (fun hge => ?_)
    · have hil : i < 32 := by omega
      refine wrI (m := i) (σ := σ1.bump 7) e2 (arr_len _ _) rfl (by simpa using hil) ?_
      refine iW_of (by omega) ?_
      refine again ⟨i + 1, ⟨by omega, by omega, by repeat (with_reducible first | assumption | exact Mem.Only.refl _ _ | exact Mem.Same.refl _ | refine Mem.Only.bump ?_ _ | refine Mem.Only.put ?_ (by simp) _ | refine Mem.Only.put ?_ (.inr (by first | omega | (simp only [Mem.next_bump, Mem.next_put]; omega))) _ | refine Mem.Same.bump ?_ _ | refine Mem.Same.put ?_ (by first | omega | (simp only [Mem.next_bump, Mem.next_put]; omega)) _), by simp only [Mem.next_bump, Mem.next_put]; omega, ?_, ?_⟩, by omega⟩
      · rw [Mem.get_bump, Mem.get_put_ne _ (by omega)]; exact e1
      · rw [Mem.get_bump, gS', arr_set, arr_ext fun j hj => ?_]
        by_cases hji : j = i
        · subst hji; rw [if_pos rfl, if_pos (by omega)]
        · rw [if_neg hji]
          by_cases h' : j < i
          · rw [if_pos h', if_pos (by omega)]
          · rw [if_neg h', if_neg (by omega)]
    · obtain rfl : i = 32 := by omega
      refine ⟨b, c, rfl, e1, ?_, ⟨by omega, by simp only [Mem.next_bump]; omega⟩, ⟨by omega, by simp only [Mem.next_bump]; omega⟩, s1.bump _⟩
      rw [Mem.get_bump, e2]; unfold fixD; rw [arr_ext fun j hj => if_pos hj]
end
end Go.Vit
