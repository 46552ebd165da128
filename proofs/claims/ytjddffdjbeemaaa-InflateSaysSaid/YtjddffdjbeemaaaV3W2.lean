/- The stream: whole numbers, stored blocks, some numbers. -/
import Derived.Test.YtjddffdjbeemaaaV3W1
set_option linter.unusedVariables false
set_option linter.unusedSimpArgs false
set_option linter.unusedSimpArgs false
set_option maxRecDepth 20000
namespace Go.Vit
open Go.Proofs
section
variable {σ σ' : Mem} {o : List Nat} {x r p : Nat} {s : ByteArray} {most : Int} {out : List UInt8} {v : AV}
theorem inflate_room {n : Nat} (h : Smv σ o x r s p most out v) (hn : n ≤ 2 ^ 40) : ACalls PG n_inflate_stream_room [.ptr x 0, .int .i64 (n : Nat)] σ fun w σ' => w = .int .i64 (if most - out.length < n then 5 else 0) ∧ σ.Same σ' := by
  refine ok_inflate_stream_room fun live => ?_
  unfold F_inflate_stream_room
  have hm := h.ms
  have hb : (out.length : Int) ≤ 2 ^ 40 ∧ (most < 0 → out.length = 0) := by
    rcases h.room with h' | h'
    · subst h'; exact ⟨by simp, fun _ => rfl⟩
    · exact ⟨by omega, fun _ => by omega⟩
  refine To.go ?_
  refine To.go ?_
  refine ldrw h.gx (v := .int .i64 most) rfl ?_
  refine To.go ?_
  refine To.go ?_
  refine ldrw h.gx (v := v) rfl ?_
  refine h.own.rdO.len ?_
  refine iW_of (by omega) ?_
  refine ifD (fun hlt => ?_) (fun hge => ?_)
  · rw [if_pos hlt]; exact ⟨rfl, (Mem.Same.refl σ).bump _⟩
  · rw [if_neg hge]; exact ⟨rfl, (Mem.Same.refl σ).bump _⟩
theorem inflate_pair (h : Smv σ o x r s p most out v) : ACalls PG n_inflate_stream_pair [.ptr x 0] σ fun w σ' => Grow o o σ σ' ∧ match rPair s p with
    | .ok (a, q) => w = .tup [.int .i64 (a : Nat), .int .i64 0] ∧ a < 65536 ∧ Smv σ' o x r s q most out v
    | .error e => w = .tup [.int .i64 0, .int .i64 e] := by
  refine ok_inflate_stream_pair fun live => ?_
  unfold F_inflate_stream_pair
  refine To.go ?_
  refine ldrw h.gx (v := .ptr r 0) rfl ?_
  refine callW_of (Smv.bytes (n := 2) (h.bump 12)) ?_
  rintro w σ1 ⟨g, hw⟩
  replace g := g.ob
  unfold rPair
  cases e : rBytes 2 s p with
  | error z =>
    rw [e] at hw
    subst hw
    have hz := Fr.ne (.bytes 2) h.le e
    rw [rBind_er e]
    repeat (first | refine To.go ?_ | with_reducible refine And.intro (by first | omega | exact ⟨rfl, rfl⟩) ?_ | ((with_reducible apply opt); (· (first | with_reducible assumption | rfl))) | ((with_reducible apply ldrw); (· (first | with_reducible assumption | (simp (disch := omega) only [go_sem, *]; try rfl))); (· (first | with_reducible assumption | rfl))) | ((with_reducible apply ldro); (· (first | with_reducible assumption | (simp (disch := omega) only [go_sem, *]; try rfl))); (· (first | with_reducible assumption | rfl))) | ((with_reducible apply st1); (· (first | with_reducible assumption | (simp (disch := omega) only [go_sem, *]; try rfl))); (· simp); (· rfl)) | with_reducible refine ifT rfl ?_ | with_reducible refine ifF (not_not_intro rfl) ?_ | with_reducible refine ifT (by omega) ?_ | with_reducible refine ifF (by omega) ?_)
    exact ⟨g.bump _, rfl⟩
  | ok y =>
    obtain ⟨a, q⟩ := y
    rw [e] at hw
    obtain ⟨rfl, h1⟩ := hw
    rw [rBind_ok e]
    have ha : a.size = 2 := by
      unfold rBytes at e
      split at e
      · exact absurd e (by simp)
      · injection e with e
        rw [← (Prod.mk.inj e).1, size_extract]; omega
    have b0 := byteAt_lt a 0
    have b1 := byteAt_lt a 1
    repeat (first | refine To.go ?_ | with_reducible refine And.intro (by first | omega | exact ⟨rfl, rfl⟩) ?_ | ((with_reducible apply opt); (· (first | with_reducible assumption | rfl))) | ((with_reducible apply ldrw); (· (first | with_reducible assumption | (simp (disch := omega) only [go_sem, *]; try rfl))); (· (first | with_reducible assumption | rfl))) | ((with_reducible apply ldro); (· (first | with_reducible assumption | (simp (disch := omega) only [go_sem, *]; try rfl))); (· (first | with_reducible assumption | rfl))) | ((with_reducible apply st1); (· (first | with_reducible assumption | (simp (disch := omega) only [go_sem, *]; try rfl))); (· simp); (· rfl)) | with_reducible refine ifT rfl ?_ | with_reducible refine ifF (not_not_intro rfl) ?_ | with_reducible refine ifT (by omega) ?_ | with_reducible refine ifF (by omega) ?_)
    rw [show ((byteAt a 1 : Nat) : Int) * 256 = ((byteAt a 1 * 256 : Nat) : Int) from by omega, bitsO (by omega) (by omega), Int.toNat_natCast, Int.toNat_natCast]
    refine ⟨g.bump _, rfl, ?_, h1.bump _⟩
    have := or_shift (a := byteAt a 0) (b := byteAt a 1) (n := 8) (by omega)
    rw [show (2 : Nat) ^ 8 = 256 from rfl] at this
    rw [this]; omega
theorem bitsXor {a b : Nat} (ha : a < 65536) (hb : b < 65536) : bitsOp .xor .i64 (a : Int) (b : Int) = ((a ^^^ b : Nat) : Int) := by
  show IntKind.i64.wrap (((BitVec.ofInt 64 (a : Int) ^^^ BitVec.ofInt 64 (b : Int)).toNat : Nat) : Int) = _
  rw [show BitVec.ofInt 64 (a : Int) = BitVec.ofNat 64 a from by simp, show BitVec.ofInt 64 (b : Int) = BitVec.ofNat 64 b from by simp, BitVec.toNat_xor, BitVec.toNat_ofNat, BitVec.toNat_ofNat, Nat.mod_eq_of_lt (by omega), Nat.mod_eq_of_lt (by omega)]
  have : a ^^^ b < 2 ^ 16 := Nat.xor_lt_two_pow (by omega) (by omega)
  rw [IntKind.wrap_i64]; omega
theorem inflate_stored (h : Smv σ o x r s p most out v) : ACalls PG n_inflate_stream_stored [.ptr x 0] σ fun w σ' => ∃ o', Grow o o' σ σ' ∧ match rStored most out s p with
    | .ok (a, q) => w = .int .i64 0 ∧ Sm σ' o' x r s q most a
    | .error e => w = .int .i64 e := by
  refine ok_inflate_stream_stored fun live => ?_
  unfold F_inflate_stream_stored
  refine callW_of (inflate_pair (h.bump 8)) ?_
  rintro w σ1 ⟨g1, hw⟩
  replace g1 := g1.ob
  unfold rStored
  cases e : rPair s p with
  | error z =>
    rw [e] at hw
    subst hw
    have hz := Fr.ne .pair h.le e
    rw [rBind_er e]
    repeat (first | refine To.go ?_ | with_reducible refine And.intro (by first | omega | exact ⟨rfl, rfl⟩) ?_ | ((with_reducible apply opt); (· (first | with_reducible assumption | rfl))) | ((with_reducible apply ldrw); (· (first | with_reducible assumption | (simp (disch := omega) only [go_sem, *]; try rfl))); (· (first | with_reducible assumption | rfl))) | ((with_reducible apply ldro); (· (first | with_reducible assumption | (simp (disch := omega) only [go_sem, *]; try rfl))); (· (first | with_reducible assumption | rfl))) | ((with_reducible apply st1); (· (first | with_reducible assumption | (simp (disch := omega) only [go_sem, *]; try rfl))); (· simp); (· rfl)) | with_reducible refine ifT rfl ?_ | with_reducible refine ifF (not_not_intro rfl) ?_ | with_reducible refine ifT (by omega) ?_ | with_reducible refine ifF (by omega) ?_)
    exact ⟨o, g1.bump _, rfl⟩
  | ok y =>
    obtain ⟨n, q⟩ := y
    rw [e] at hw
    obtain ⟨rfl, hn, h1⟩ := hw
    rw [rBind_ok e]
    repeat (first | refine To.go ?_ | with_reducible refine And.intro (by first | omega | exact ⟨rfl, rfl⟩) ?_ | ((with_reducible apply opt); (· (first | with_reducible assumption | rfl))) | ((with_reducible apply ldrw); (· (first | with_reducible assumption | (simp (disch := omega) only [go_sem, *]; try rfl))); (· (first | with_reducible assumption | rfl))) | ((with_reducible apply ldro); (· (first | with_reducible assumption | (simp (disch := omega) only [go_sem, *]; try rfl))); (· (first | with_reducible assumption | rfl))) | ((with_reducible apply st1); (· (first | with_reducible assumption | (simp (disch := omega) only [go_sem, *]; try rfl))); (· simp); (· rfl)) | with_reducible refine ifT rfl ?_ | with_reducible refine ifF (not_not_intro rfl) ?_ | with_reducible refine ifT (by omega) ?_ | with_reducible refine ifF (by omega) ?_)
    refine callW_of (inflate_pair (h1.bump 9)) ?_
    rintro w σ2 ⟨g2, hw⟩
    replace g2 := g1.trans g2.ob
    clear e
    cases e : rPair s q with
    | error z =>
      rw [e] at hw
      subst hw
      have hz := Fr.ne .pair h1.le e
      rw [rBind_er e]
      repeat (first | refine To.go ?_ | with_reducible refine And.intro (by first | omega | exact ⟨rfl, rfl⟩) ?_ | ((with_reducible apply opt); (· (first | with_reducible assumption | rfl))) | ((with_reducible apply ldrw); (· (first | with_reducible assumption | (simp (disch := omega) only [go_sem, *]; try rfl))); (· (first | with_reducible assumption | rfl))) | ((with_reducible apply ldro); (· (first | with_reducible assumption | (simp (disch := omega) only [go_sem, *]; try rfl))); (· (first | with_reducible assumption | rfl))) | ((with_reducible apply st1); (· (first | with_reducible assumption | (simp (disch := omega) only [go_sem, *]; try rfl))); (· simp); (· rfl)) | with_reducible refine ifT rfl ?_ | with_reducible refine ifF (not_not_intro rfl) ?_ | with_reducible refine ifT (by omega) ?_ | with_reducible refine ifF (by omega) ?_)
      exact ⟨o, g2.bump _, rfl⟩
    | ok y =>
      obtain ⟨m, q2⟩ := y
      rw [e] at hw
      obtain ⟨rfl, hm, h2⟩ := hw
      rw [rBind_ok e]
      repeat (first | refine To.go ?_ | with_reducible refine And.intro (by first | omega | exact ⟨rfl, rfl⟩) ?_ | ((with_reducible apply opt); (· (first | with_reducible assumption | rfl))) | ((with_reducible apply ldrw); (· (first | with_reducible assumption | (simp (disch := omega) only [go_sem, *]; try rfl))); (· (first | with_reducible assumption | rfl))) | ((with_reducible apply ldro); (· (first | with_reducible assumption | (simp (disch := omega) only [go_sem, *]; try rfl))); (· (first | with_reducible assumption | rfl))) | ((with_reducible apply st1); (· (first | with_reducible assumption | (simp (disch := omega) only [go_sem, *]; try rfl))); (· simp); (· rfl)) | with_reducible refine ifT rfl ?_ | with_reducible refine ifF (not_not_intro rfl) ?_ | with_reducible refine ifT (by omega) ?_ | with_reducible refine ifF (by omega) ?_)
      rw [bitsXor hn hm]
      by_cases hx : n ^^^ m ≠ 65535
      · rw [if_pos hx]
        refine ifD (fun _ => ?_) (fun h => absurd (fun e => hx (by omega)) h)
        exact ⟨o, g2.bump _, rfl⟩
      · rw [if_neg hx]
        refine ifD (fun h => absurd (Decidable.not_not.1 hx) fun e => h (by omega)) (fun _ => ?_)
        refine To.go ?_
        refine ldrw h2.gx (v := .ptr r 0) rfl ?_
        refine callW_of (Smv.bytes (h2.bump 17)) ?_
        rintro w σ3 ⟨g3, hw⟩
        replace g3 := g2.trans g3.ob
        clear e
        cases e : rBytes n s q2 with
        | error z =>
          rw [e] at hw
          subst hw
          have hz := Fr.ne (.bytes n) h2.le e
          rw [rBind_er e]
          repeat (first | refine To.go ?_ | with_reducible refine And.intro (by first | omega | exact ⟨rfl, rfl⟩) ?_ | ((with_reducible apply opt); (· (first | with_reducible assumption | rfl))) | ((with_reducible apply ldrw); (· (first | with_reducible assumption | (simp (disch := omega) only [go_sem, *]; try rfl))); (· (first | with_reducible assumption | rfl))) | ((with_reducible apply ldro); (· (first | with_reducible assumption | (simp (disch := omega) only [go_sem, *]; try rfl))); (· (first | with_reducible assumption | rfl))) | ((with_reducible apply st1); (· (first | with_reducible assumption | (simp (disch := omega) only [go_sem, *]; try rfl))); (· simp); (· rfl)) | with_reducible refine ifT rfl ?_ | with_reducible refine ifF (not_not_intro rfl) ?_ | with_reducible refine ifT (by omega) ?_ | with_reducible refine ifF (by omega) ?_)
          exact ⟨o, g3.bump _, rfl⟩
        | ok y =>
          obtain ⟨b, q3⟩ := y
          rw [e] at hw
          obtain ⟨rfl, h3⟩ := hw
          rw [rBind_ok e]
          have hb : b.size = n := by
            unfold rBytes at e
            split at e
            · exact absurd e (by simp)
            · injection e with e
              rw [← (Prod.mk.inj e).1, size_extract]; omega
          repeat (first | refine To.go ?_ | with_reducible refine And.intro (by first | omega | exact ⟨rfl, rfl⟩) ?_ | ((with_reducible apply opt); (· (first | with_reducible assumption | rfl))) | ((with_reducible apply ldrw); (· (first | with_reducible assumption | (simp (disch := omega) only [go_sem, *]; try rfl))); (· (first | with_reducible assumption | rfl))) | ((with_reducible apply ldro); (· (first | with_reducible assumption | (simp (disch := omega) only [go_sem, *]; try rfl))); (· (first | with_reducible assumption | rfl))) | ((with_reducible apply st1); (· (first | with_reducible assumption | (simp (disch := omega) only [go_sem, *]; try rfl))); (· simp); (· rfl)) | with_reducible refine ifT rfl ?_ | with_reducible refine ifF (not_not_intro rfl) ?_ | with_reducible refine ifT (by omega) ?_ | with_reducible refine ifF (by omega) ?_)
          refine callW_of (inflate_room (n := n) (h3.bump 6) (by omega)) ?_
          rintro w σ4 ⟨rfl, s4⟩
          replace s4 := s4.ob
          have h4 := h3.keep (fun b hb => s4.get b (h3.lt b hb)) s4.next
          have g4 := g3.then s4
          unfold rRoom
          by_cases hr : most - out.length < n
          · rw [if_pos hr, if_pos hr]
            repeat (first | refine To.go ?_ | with_reducible refine And.intro (by first | omega | exact ⟨rfl, rfl⟩) ?_ | ((with_reducible apply opt); (· (first | with_reducible assumption | rfl))) | ((with_reducible apply ldrw); (· (first | with_reducible assumption | (simp (disch := omega) only [go_sem, *]; try rfl))); (· (first | with_reducible assumption | rfl))) | ((with_reducible apply ldro); (· (first | with_reducible assumption | (simp (disch := omega) only [go_sem, *]; try rfl))); (· (first | with_reducible assumption | rfl))) | ((with_reducible apply st1); (· (first | with_reducible assumption | (simp (disch := omega) only [go_sem, *]; try rfl))); (· simp); (· rfl)) | with_reducible refine ifT rfl ?_ | with_reducible refine ifF (not_not_intro rfl) ?_ | with_reducible refine ifT (by omega) ?_ | with_reducible refine ifF (by omega) ?_)
            exact ⟨o, g4.bump _, rfl⟩
          · rw [if_neg hr, if_neg hr]
            repeat (first | refine To.go ?_ | with_reducible refine And.intro (by first | omega | exact ⟨rfl, rfl⟩) ?_ | ((with_reducible apply opt); (· (first | with_reducible assumption | rfl))) | ((with_reducible apply ldrw); (· (first | with_reducible assumption | (simp (disch := omega) only [go_sem, *]; try rfl))); (· (first | with_reducible assumption | rfl))) | ((with_reducible apply ldro); (· (first | with_reducible assumption | (simp (disch := omega) only [go_sem, *]; try rfl))); (· (first | with_reducible assumption | rfl))) | ((with_reducible apply st1); (· (first | with_reducible assumption | (simp (disch := omega) only [go_sem, *]; try rfl))); (· simp); (· rfl)) | with_reducible refine ifT rfl ?_ | with_reducible refine ifF (not_not_intro rfl) ?_ | with_reducible refine ifT (by omega) ?_ | with_reducible refine ifF (by omega) ?_)
            refine ldrw h4.gx (v := v) rfl ?_
            refine h4.push (bytes := bytesL b) (m := n) ((Mem.Same.refl σ4).bump 12) (fun K hK => src_str K (by rw [hb]; exact hK)) (by rw [bytesL_length, hb]) ⟨by omega, by simp only [Mem.next_bump]; omega⟩ (.inr (by rw [bytesL_length]; omega)) ?_
            intro o' v' σ5 h5 g5 n5
            exact ⟨o', (g4.trans g5).bump _, rfl, v', h5.bump _⟩
end
end Go.Vit
