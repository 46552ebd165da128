/- The law BitsReads. -/
import Derived.Test.YtjhmjjbllaodlaaVB5
import Derived.Test.YtjhmjjbllaodlaaVB2
import Derived.Test.YtjhmjjbllaodlaaVsG
set_option linter.unusedVariables false
set_option linter.unusedSimpArgs false
set_option linter.unusedSimpArgs false
set_option maxRecDepth 20000
namespace Go.Vit
open Go.Proofs
theorem rdBits_le {s : ByteArray} {at' : Nat} (n : Int) (ha : at' ≤ 8 * s.size) : (rdBits s at' n).2.2 ≤ 8 * s.size := by
  unfold rdBits
  split
  · exact ha
  · split
    · exact ha
    · dsimp only; omega
theorem rdBytes_le {s : ByteArray} {at' : Nat} (n : Int) (ha : at' ≤ 8 * s.size) : (rdBytes s at' n).2.2 ≤ 8 * s.size := by
  unfold rdBytes
  split
  · exact ha
  · split
    · dsimp only; omega
    · dsimp only; omega
/-- A call: whole bytes or not, how many, of what. -/
def opC (o : Bool × Int × Int) : List AV := [.bool o.1, .int .i64 o.2.1, .int .i64 o.2.2]
def opOk (o : Bool × Int × Int) : Prop := (-9223372036854775808 ≤ o.2.1 ∧ o.2.1 ≤ 9223372036854775807) ∧ (-9223372036854775808 ≤ o.2.2 ∧ o.2.2 ≤ 9223372036854775807)
theorem op_decode {σ : Mem} (c : List AV) (h : Wt PG σ 44 c) : ∃ o, c = opC o ∧ opOk o := by
  obtain ⟨hl, hf⟩ := h.fields (show fieldsOf PG 44 = (4, 0) :: [(3, 1), (3, 2)] by kernel_rfl)
  rw [show PG.cellsOf 44 = 3 by kernel_rfl] at hl
  match c, hl with
  | [x, y, z], _ =>
    have h1 := hf (4, 0) (by simp)
    have h2 := hf (3, 1) (by simp)
    have h3 := hf (3, 2) (by simp)
    rw [show PG.cellsOf 4 = 1 by kernel_rfl] at h1
    rw [show PG.cellsOf 3 = 1 by kernel_rfl] at h2 h3
    obtain ⟨b, hb⟩ := h1.bool_inv (by kernel_rfl)
    obtain ⟨n, hn, wn⟩ := h2.int_inv (k := .i64) (by kernel_rfl)
    obtain ⟨v, hv, wv⟩ := h3.int_inv (k := .i64) (by kernel_rfl)
    simp at hb hn hv
    subst hb hn hv
    exact ⟨(b, n, v), rfl, wf_i64 wn, wf_i64 wv⟩
/-- A list of calls as an argument. -/
def opsA (σ : Mem) (a : AV) (os : List (Bool × Int × Int)) : Prop := (a = .nils ∧ os = []) ∨ ∃ b, a = .slice b 0 os.length (.op 0) ∧ σ.get b = some (.ro (os.flatMap opC))
theorem ops_arg {σ : Mem} {ts : List Nat} {l : List AV} (h : Wts PG σ (37 :: ts) l) : ∃ a r os, l = a :: r ∧ Wts PG σ ts r ∧ opsA σ a os ∧ ∀ o ∈ os, opOk o := by
  obtain ⟨a, r, rfl, hs, h⟩ := h.slice (e := 44) (by kernel_rfl)
  rcases h with rfl | ⟨b, n, l, rfl, hg, _, hl, he⟩
  · exact ⟨_, r, [], rfl, hs, .inl ⟨rfl, rfl⟩, fun o h => by simp at h⟩
  · rw [show PG.cellsOf 44 = 3 by kernel_rfl] at hl he
    obtain ⟨os, h1, h2, h3⟩ := slice_decode (enc := opC) (good := opOk) op_decode hl he
    exact ⟨_, r, os, rfl, hs, .inr ⟨b, by rw [h1], by rw [hg, h2]⟩, h3⟩
theorem opC_len (o : Bool × Int × Int) : (opC o).length = 3 := rfl
theorem ops_len {σ : Mem} {a : AV} {os : List (Bool × Int × Int)} (h : opsA σ a os) {K : Int → Prop} (hk : K (os.length : Nat)) : slenW a K := by
  rcases h with ⟨rfl, rfl⟩ | ⟨b, rfl, _⟩ <;> exact hk
theorem opsA.keep {σ σ' : Mem} {a : AV} {os : List (Bool × Int × Int)} (h : opsA σ a os) (live : σ.Live) {L : List Nat} (ho : Mem.Only L σ σ') (hL : ∀ b ∈ L, σ.next ≤ b) : opsA σ' a os := by
  rcases h with h | ⟨b, h1, h2⟩
  · exact .inl h
  · exact .inr ⟨b, h1, ho.keep h2 (live.lt h2) fun hb => by have := hL b hb; have := live.lt h2; omega⟩
/-- Where a call's field stands. -/
theorem ops_at {σ : Mem} {a : AV} {os : List (Bool × Int × Int)} (h : opsA σ a os) {i : Nat} (hi : i < os.length) : ∃ b, a = .slice b 0 os.length (.op 0) ∧ σ.get b = some (.ro (os.flatMap opC)) := by
  rcases h with ⟨_, rfl⟩ | h
  · simp at hi
  · exact h
theorem ops_cell {os : List (Bool × Int × Int)} {i : Nat} (hi : i < os.length) : (os.flatMap opC)[i * 3]? = some (.bool os[i].1) ∧ (os.flatMap opC)[i * 3 + 1]? = some (.int .i64 os[i].2.1) ∧ (os.flatMap opC)[i * 3 + 2]? = some (.int .i64 os[i].2.2) :=
  ⟨flat_get (j := 0) opC_len hi (by decide), flat_get (j := 1) opC_len hi (by decide), flat_get (j := 2) opC_len hi (by decide)⟩
theorem args_BitsReads {σ : Mem} {l : List AV} (hw : Wts PG σ Try.f9.params.toList l) : ∃ s a os, l = [.str s, a] ∧ s.size ≤ reachBytes ∧ opsA σ a os ∧ ∀ o ∈ os, opOk o := by
  rw [show Try.f9.params.toList = [9, 37] from by rw [Try.params9]] at hw
  obtain ⟨s, r, rfl, hs, hw⟩ := hw.str (by kernel_rfl)
  obtain ⟨a, r, os, rfl, hw, ha, hok⟩ := ops_arg hw
  obtain rfl := hw.nil_inv
  exact ⟨s, a, os, rfl, hs, ha, hok⟩
theorem law01_BitsReads (σ : Mem) (l : List AV) (_ : σ.Ro) (hw : Wts PG σ Try.f9.params.toList l) : ACalls PG n_law01_BitsReads l σ fun v _ => isTrue v := by
  obtain ⟨s, a, os, rfl, hs, ha, hok⟩ := args_BitsReads hw
  clear hw
  refine ok_law01_BitsReads fun live => ?_
  unfold F_law01_BitsReads
  refine callW_of (bits_Read s _) ?_
  rintro v σ1 ⟨r, rfl, hr1, hr2, e1, s1⟩
  replace s1 := s1.ob
  simp only [Mem.next_bump] at hr1
  repeat (first | refine To.go ?_ | with_reducible refine And.intro (by first | omega | exact ⟨rfl, rfl⟩) ?_ | ((with_reducible apply opt); (· (first | with_reducible assumption | rfl))) | ((with_reducible apply ldrw); (· (first | with_reducible assumption | (simp (disch := omega) only [go_sem, *]; try rfl))); (· (first | with_reducible assumption | rfl))) | ((with_reducible apply ldro); (· (first | with_reducible assumption | (simp (disch := omega) only [go_sem, *]; try rfl))); (· (first | with_reducible assumption | rfl))) | ((with_reducible apply st1); (· (first | with_reducible assumption | (simp (disch := omega) only [go_sem, *]; try rfl))); (· simp); (· rfl)) | with_reducible refine ifT rfl ?_ | with_reducible refine ifF (not_not_intro rfl) ?_ | with_reducible refine ifT (by omega) ?_ | with_reducible refine ifF (by omega) ?_)
  obtain ⟨x, hx⟩ : ∃ x, x = σ1.next + 4 := ⟨_, rfl⟩
  rw [← hx]
  have hn1 := s1.next
  have hrx : r ≠ x := by omega
  let R : Mem → Prop := fun σ' => (∃ at', at' ≤ 8 * s.size ∧ σ'.get r = some (rdP s at') ∧ σ'.get x = some (rdR s at')) ∧ Mem.Only [r, x] σ σ' ∧ x < σ'.next
  have start : R (((σ1.bump 6).put x (some (.rw [.str s, .int .i64 0]))).bump 1) := by
    refine ⟨⟨0, by omega, gB (gN hrx (gB e1)), gB gS'⟩, ?_, ?_⟩
    · have := s1.only [r, x]
      refine (Mem.Only.put ?_ (.inr (by omega)) _).bump _
      repeat (with_reducible first | assumption | exact Mem.Only.refl _ _ | exact Mem.Same.refl _ | refine Mem.Only.bump ?_ _ | refine Mem.Only.put ?_ (by simp) _ | refine Mem.Only.put ?_ (.inr (by first | omega | (simp only [Mem.next_bump, Mem.next_put]; omega))) _ | refine Mem.Same.bump ?_ _ | refine Mem.Same.put ?_ (by first | omega | (simp only [Mem.next_bump, Mem.next_put]; omega)) _)
    · simp only [Mem.next_bump, Mem.next_put]; omega
  have fin : ∀ σ' σ'' at', Mem.Only [r, x] σ σ' → Mem.Only [x] σ' σ'' → x < σ'.next → at' ≤ 8 * s.size → σ''.get r = some (rdP s at') → σ''.get x = some (rdR s at') → R σ'' := by
    intro σ' σ'' at' h1 h2 h3 h4 h5 h6
    exact ⟨⟨at', h4, h5, h6⟩, h1.trans (h2.mono (by simp)), Nat.lt_of_lt_of_le h3 h2.next⟩
  refine loop1 (fun (i : Nat) (k : Int) σ' => k = i ∧ i ≤ os.length ∧ R σ') (fun i => os.length - i) 0 ⟨rfl, by omega, start⟩ ?_
  rintro i k σ2 ⟨rfl, hi, ⟨at', hat, e2, x2⟩, o2, hn2⟩
  have ha2 := ha.keep live o2 (by simp; omega)
  unfold F_law01_BitsReads_l1
  rw [← hx]
  refine ops_len ha2 ?_
  refine ifD (fun hlt => ?_) (fun hge => ?_)
  · have hlt' : i < os.length := by omega
    obtain ⟨b, rfl, hb⟩ := ops_at ha2 hlt'
    obtain ⟨c0, c1, c2⟩ := ops_cell hlt'
    refine ifD (fun h3 => ?_) (fun h3 => ?_)
    · repeat (first | refine To.go ?_ | with_reducible refine And.intro (by first | omega | exact ⟨rfl, rfl⟩) ?_ | ((with_reducible apply opt); (· (first | with_reducible assumption | rfl))) | ((with_reducible apply ldrw); (· (first | with_reducible assumption | (simp (disch := omega) only [go_sem, *]; try rfl))); (· (first | with_reducible assumption | rfl))) | ((with_reducible apply ldro); (· (first | with_reducible assumption | (simp (disch := omega) only [go_sem, *]; try rfl))); (· (first | with_reducible assumption | rfl))) | ((with_reducible apply st1); (· (first | with_reducible assumption | (simp (disch := omega) only [go_sem, *]; try rfl))); (· simp); (· rfl)) | with_reducible refine ifT rfl ?_ | with_reducible refine ifF (not_not_intro rfl) ?_ | with_reducible refine ifT (by omega) ?_ | with_reducible refine ifF (by omega) ?_)
      have hr2' : r < σ2.next := Nat.lt_of_lt_of_le hr2 (Nat.le_trans (by omega) hn2)
      refine join0 R ?_ ?_
      · refine ifI (fun hwhole => ?_) (fun hbits => ?_)
        · refine callW_of (bits_Reader_Bytes hs (gB e2) hat) ?_
          rintro v σ3 ⟨rfl, e3, o3⟩
          replace o3 := o3.ob
          have x3 : σ3.get x = some (rdR s at') := o3.keep x2 hn2 (by simp; omega)
          repeat (first | refine To.go ?_ | with_reducible refine And.intro (by first | omega | exact ⟨rfl, rfl⟩) ?_ | ((with_reducible apply opt); (· (first | with_reducible assumption | rfl))) | ((with_reducible apply ldrw); (· (first | with_reducible assumption | (simp (disch := omega) only [go_sem, *]; try rfl))); (· (first | with_reducible assumption | rfl))) | ((with_reducible apply ldro); (· (first | with_reducible assumption | (simp (disch := omega) only [go_sem, *]; try rfl))); (· (first | with_reducible assumption | rfl))) | ((with_reducible apply st1); (· (first | with_reducible assumption | (simp (disch := omega) only [go_sem, *]; try rfl))); (· simp); (· rfl)) | with_reducible refine ifT rfl ?_ | with_reducible refine ifF (not_not_intro rfl) ?_ | with_reducible refine ifT (by omega) ?_ | with_reducible refine ifF (by omega) ?_)
          refine callW_of (ref01_Reader_Bytes hs (gB x3) hat) ?_
          rintro v σ4 ⟨rfl, x4, o4⟩
          replace o4 := o4.ob
          have e4 := o4.keep e3 (Nat.lt_of_lt_of_le hr2' o3.next) (by simp; omega)
          repeat (first | refine To.go ?_ | with_reducible refine And.intro (by first | omega | exact ⟨rfl, rfl⟩) ?_ | ((with_reducible apply opt); (· (first | with_reducible assumption | rfl))) | ((with_reducible apply ldrw); (· (first | with_reducible assumption | (simp (disch := omega) only [go_sem, *]; try rfl))); (· (first | with_reducible assumption | rfl))) | ((with_reducible apply ldro); (· (first | with_reducible assumption | (simp (disch := omega) only [go_sem, *]; try rfl))); (· (first | with_reducible assumption | rfl))) | ((with_reducible apply st1); (· (first | with_reducible assumption | (simp (disch := omega) only [go_sem, *]; try rfl))); (· simp); (· rfl)) | with_reducible refine ifT rfl ?_ | with_reducible refine ifF (not_not_intro rfl) ?_ | with_reducible refine ifT (by omega) ?_ | with_reducible refine ifF (by omega) ?_)
          exact fin σ3 _ _ (o2.trans (o3.mono (by simp))) (by repeat (with_reducible first | assumption | exact Mem.Only.refl _ _ | exact Mem.Same.refl _ | refine Mem.Only.bump ?_ _ | refine Mem.Only.put ?_ (by simp) _ | refine Mem.Only.put ?_ (.inr (by first | omega | (simp only [Mem.next_bump, Mem.next_put]; omega))) _ | refine Mem.Same.bump ?_ _ | refine Mem.Same.put ?_ (by first | omega | (simp only [Mem.next_bump, Mem.next_put]; omega)) _)) (Nat.lt_of_lt_of_le hn2 o3.next) (rdBytes_le _ hat) e4 x4
        · refine callW_of (bits_Reader_Bits hs (gB e2) hat) ?_
          rintro v σ3 ⟨rfl, e3, o3⟩
          replace o3 := o3.ob
          have x3 : σ3.get x = some (rdR s at') := o3.keep x2 hn2 (by simp; omega)
          repeat (first | refine To.go ?_ | with_reducible refine And.intro (by first | omega | exact ⟨rfl, rfl⟩) ?_ | ((with_reducible apply opt); (· (first | with_reducible assumption | rfl))) | ((with_reducible apply ldrw); (· (first | with_reducible assumption | (simp (disch := omega) only [go_sem, *]; try rfl))); (· (first | with_reducible assumption | rfl))) | ((with_reducible apply ldro); (· (first | with_reducible assumption | (simp (disch := omega) only [go_sem, *]; try rfl))); (· (first | with_reducible assumption | rfl))) | ((with_reducible apply st1); (· (first | with_reducible assumption | (simp (disch := omega) only [go_sem, *]; try rfl))); (· simp); (· rfl)) | with_reducible refine ifT rfl ?_ | with_reducible refine ifF (not_not_intro rfl) ?_ | with_reducible refine ifT (by omega) ?_ | with_reducible refine ifF (by omega) ?_)
          refine callW_of (ref01_Reader_Bits hs (gB x3) hat) ?_
          rintro v σ4 ⟨rfl, x4, o4⟩
          replace o4 := o4.ob
          have e4 := o4.keep e3 (Nat.lt_of_lt_of_le hr2' o3.next) (by simp; omega)
          repeat (first | refine To.go ?_ | with_reducible refine And.intro (by first | omega | exact ⟨rfl, rfl⟩) ?_ | ((with_reducible apply opt); (· (first | with_reducible assumption | rfl))) | ((with_reducible apply ldrw); (· (first | with_reducible assumption | (simp (disch := omega) only [go_sem, *]; try rfl))); (· (first | with_reducible assumption | rfl))) | ((with_reducible apply ldro); (· (first | with_reducible assumption | (simp (disch := omega) only [go_sem, *]; try rfl))); (· (first | with_reducible assumption | rfl))) | ((with_reducible apply st1); (· (first | with_reducible assumption | (simp (disch := omega) only [go_sem, *]; try rfl))); (· simp); (· rfl)) | with_reducible refine ifT rfl ?_ | with_reducible refine ifF (not_not_intro rfl) ?_ | with_reducible refine ifT (by omega) ?_ | with_reducible refine ifF (by omega) ?_)
          exact fin σ3 _ _ (o2.trans (o3.mono (by simp))) (by repeat (with_reducible first | assumption | exact Mem.Only.refl _ _ | exact Mem.Same.refl _ | refine Mem.Only.bump ?_ _ | refine Mem.Only.put ?_ (by simp) _ | refine Mem.Only.put ?_ (.inr (by first | omega | (simp only [Mem.next_bump, Mem.next_put]; omega))) _ | refine Mem.Same.bump ?_ _ | refine Mem.Same.put ?_ (by first | omega | (simp only [Mem.next_bump, Mem.next_put]; omega)) _)) (Nat.lt_of_lt_of_le hn2 o3.next) (rdBits_le _ hat) e4 x4
      · rintro σ5 ⟨⟨at5, hat5, e5, x5⟩, o5, hn5⟩
        unfold F_law01_BitsReads_j1
        refine callW_of (bits_Reader_Left hs (gB e5) hat5) ?_
        rintro v σ6 ⟨rfl, s6⟩
        replace s6 := s6.ob
        have hr5 : r < σ5.next := by omega
        repeat (first | refine To.go ?_ | with_reducible refine And.intro (by first | omega | exact ⟨rfl, rfl⟩) ?_ | ((with_reducible apply opt); (· (first | with_reducible assumption | rfl))) | ((with_reducible apply ldrw); (· (first | with_reducible assumption | (simp (disch := omega) only [go_sem, *]; try rfl))); (· (first | with_reducible assumption | rfl))) | ((with_reducible apply ldro); (· (first | with_reducible assumption | (simp (disch := omega) only [go_sem, *]; try rfl))); (· (first | with_reducible assumption | rfl))) | ((with_reducible apply st1); (· (first | with_reducible assumption | (simp (disch := omega) only [go_sem, *]; try rfl))); (· simp); (· rfl)) | with_reducible refine ifT rfl ?_ | with_reducible refine ifF (not_not_intro rfl) ?_ | with_reducible refine ifT (by omega) ?_ | with_reducible refine ifF (by omega) ?_)
        rw [← hx]
        refine callW_of (ref01_Reader_Left hs (s6.keep x5 hn5) hat5) ?_
        rintro v σ7 ⟨rfl, s7⟩
        have s67 := s6.trans s7
        repeat (first | refine To.go ?_ | with_reducible refine And.intro (by first | omega | exact ⟨rfl, rfl⟩) ?_ | ((with_reducible apply opt); (· (first | with_reducible assumption | rfl))) | ((with_reducible apply ldrw); (· (first | with_reducible assumption | (simp (disch := omega) only [go_sem, *]; try rfl))); (· (first | with_reducible assumption | rfl))) | ((with_reducible apply ldro); (· (first | with_reducible assumption | (simp (disch := omega) only [go_sem, *]; try rfl))); (· (first | with_reducible assumption | rfl))) | ((with_reducible apply st1); (· (first | with_reducible assumption | (simp (disch := omega) only [go_sem, *]; try rfl))); (· simp); (· rfl)) | with_reducible refine ifT rfl ?_ | with_reducible refine ifF (not_not_intro rfl) ?_ | with_reducible refine ifT (by omega) ?_ | with_reducible refine ifF (by omega) ?_)
        exact again ⟨i + 1, ⟨by omega, by omega, ⟨at5, hat5, s67.keep e5 hr5, s67.keep x5 hn5⟩, (o5.then s67).bump _, Nat.lt_of_lt_of_le hn5 (Nat.le_trans s67.next (Nat.le_add_right _ _))⟩, by omega⟩
    · refine callW_of (law01_awake _) ?_
      rintro v σ3 ⟨rfl, _⟩
      repeat (first | refine To.go ?_ | with_reducible refine And.intro (by first | omega | exact ⟨rfl, rfl⟩) ?_ | ((with_reducible apply opt); (· (first | with_reducible assumption | rfl))) | ((with_reducible apply ldrw); (· (first | with_reducible assumption | (simp (disch := omega) only [go_sem, *]; try rfl))); (· (first | with_reducible assumption | rfl))) | ((with_reducible apply ldro); (· (first | with_reducible assumption | (simp (disch := omega) only [go_sem, *]; try rfl))); (· (first | with_reducible assumption | rfl))) | ((with_reducible apply st1); (· (first | with_reducible assumption | (simp (disch := omega) only [go_sem, *]; try rfl))); (· simp); (· rfl)) | with_reducible refine ifT rfl ?_ | with_reducible refine ifF (not_not_intro rfl) ?_ | with_reducible refine ifT (by omega) ?_ | with_reducible refine ifF (by omega) ?_)
      exact rfl
  · refine callW_of (law01_awake _) ?_
    rintro v σ3 ⟨rfl, _⟩
    repeat (first | refine To.go ?_ | with_reducible refine And.intro (by first | omega | exact ⟨rfl, rfl⟩) ?_ | ((with_reducible apply opt); (· (first | with_reducible assumption | rfl))) | ((with_reducible apply ldrw); (· (first | with_reducible assumption | (simp (disch := omega) only [go_sem, *]; try rfl))); (· (first | with_reducible assumption | rfl))) | ((with_reducible apply ldro); (· (first | with_reducible assumption | (simp (disch := omega) only [go_sem, *]; try rfl))); (· (first | with_reducible assumption | rfl))) | ((with_reducible apply st1); (· (first | with_reducible assumption | (simp (disch := omega) only [go_sem, *]; try rfl))); (· simp); (· rfl)) | with_reducible refine ifT rfl ?_ | with_reducible refine ifF (not_not_intro rfl) ?_ | with_reducible refine ifT (by omega) ?_ | with_reducible refine ifF (by omega) ?_)
    exact rfl
end Go.Vit
