/- Whether two lists of tokens are the same; the notes of the program's tokens. -/
import Derived.Test.YtjhmjjbllaodlaaVL1
set_option linter.unusedVariables false
set_option linter.unusedSimpArgs false
set_option linter.unusedSimpArgs false
set_option maxRecDepth 20000
namespace Go.Vit
open Go.Proofs
/-- A list that may be read. -/
def RdS (k : Nat) (σ : Mem) (v : AV) (cs : List AV) (n : Nat) : Prop :=
  (v = .nils ∧ n = 0 ∧ cs = []) ∨ ∃ b c, v = .slice b 0 n c ∧ (∃ q, σ.get b = some q ∧ q.cellsR = some cs) ∧ cs.length = n * k
theorem OwnS.rd {k n : Nat} {σ : Mem} {v : AV} {cs : List AV} (h : OwnS k σ v cs n) : RdS k σ v cs n := by
  rcases h with h | ⟨b, h1, h2, h3⟩
  · exact .inl h
  · exact .inr ⟨b, _, h1, ⟨_, h2, rfl⟩, h3⟩
theorem RdS.len {k n : Nat} {σ : Mem} {v : AV} {cs : List AV} (h : RdS k σ v cs n) {K : Int → Prop} (hk : K (n : Nat)) : slenW v K := by
  rcases h with ⟨rfl, rfl, rfl⟩ | ⟨b, c, rfl, _⟩ <;> exact hk
theorem RdS.pos {k n : Nat} {σ : Mem} {v : AV} {cs : List AV} (h : RdS k σ v cs n) (hn : 0 < n) : ∃ b c, v = .slice b 0 n c ∧ (∃ q, σ.get b = some q ∧ q.cellsR = some cs) ∧ cs.length = n * k := by
  rcases h with ⟨_, h, _⟩ | h
  · omega
  · exact h
theorem RdS.keep {k n : Nat} {σ σ' : Mem} {v : AV} {cs : List AV} (h : RdS k σ v cs n) (hb : ∀ b ∈ blkOf v, σ'.get b = σ.get b) : RdS k σ' v cs n := by
  rcases h with h | ⟨b, c, rfl, ⟨q, h1, h2⟩, h3⟩
  · exact .inl h
  · exact .inr ⟨b, c, rfl, ⟨q, (hb b (by simp [blkOf])).trans h1, h2⟩, h3⟩
theorem RdS.lt {k n : Nat} {σ : Mem} {v : AV} {cs : List AV} (h : RdS k σ v cs n) (live : σ.Live) : ∀ b ∈ blkOf v, b < σ.next := by
  rcases h with ⟨rfl, _⟩ | ⟨b, c, rfl, ⟨q, h1, h2⟩, h3⟩
  · intro b hb; simp [blkOf] at hb
  · intro c hc; simp [blkOf] at hc; subst hc; exact live.lt h1
/-- Some cells of a block, and one. -/
theorem ldn_rd {σ : Mem} {b o n : Nat} {cs : List AV} {K : AV → Prop} (h : ∃ q, σ.get b = some q ∧ q.cellsR = some cs) (hn : o + n ≤ cs.length) (hk : K (.agg ((cs.drop o).take n))) : ldnW n σ (.ptr b o) K := by
  obtain ⟨q, h1, h2⟩ := h
  exact ldnq h1 h2 hn hk
theorem ld_rd {σ : Mem} {b o : Nat} {cs : List AV} {v : AV} {K : AV → Prop} (h : ∃ q, σ.get b = some q ∧ q.cellsR = some cs) (hn : cs[o]? = some v) (hk : K v) : ldW σ (.ptr b o) K := by
  obtain ⟨q, h1, h2⟩ := h
  exact ldq h1 (by rw [h2]; exact hn) hk
def tkl (l : List Tok) : List AV := l.flatMap tokC
theorem tkl_len (l : List Tok) : (tkl l).length = l.length * 3 := by unfold tkl; rw [flat_length tokC_len]
theorem ldn_tok {σ : Mem} {b i : Nat} {l : List Tok} {K : AV → Prop} (h : ∃ q, σ.get b = some q ∧ q.cellsR = some (tkl l)) (hi : i < l.length) (hk : K (.agg (tokC l[i]))) : ldnW 3 σ (.ptr b (i * 3)) K := by
  refine ldn_rd h ?_ ?_
  · rw [tkl_len]; omega
  · unfold tkl; rw [flat_piece tokC_len hi]; exact hk
theorem law04_tokens {a b : AV} {l m : List Tok} {σ : Mem} (ha : RdS 3 σ a (tkl l) l.length) (hb : RdS 3 σ b (tkl m) m.length) (hl : l.length ≤ 2 ^ 60) :
    ACalls PG n_law04_tokens [a, b] σ fun v σ' => v = .bool (decide (l = m)) ∧ σ.Same σ' := by
  refine ok_law04_tokens fun live => ?_
  unfold F_law04_tokens
  have hla := ha.lt live
  have hlb := hb.lt live
  refine ha.len ?_
  refine hb.len ?_
  refine ifD (fun hne => ?_) (fun heq => ?_)
  · refine ⟨?_, (Mem.Same.refl σ).bump _⟩
    rw [decide_eq_false]
    rintro rfl
    exact hne rfl
  · have hlen : l.length = m.length := by omega
    refine loop1 (fun (i : Nat) (x : Int) σ' => x = i ∧ i ≤ l.length ∧ l.take i = m.take i ∧ σ.Same σ') (fun i => l.length - i) 0 ⟨rfl, by omega, by simp, (Mem.Same.refl σ).bump _⟩ ?_
    rintro i _ σ1 ⟨rfl, hi, ht, s1⟩
    unfold F_law04_tokens_l1
    have ha1 := ha.keep fun b hb => s1.get b (hla b hb)
    have hb1 := hb.keep fun b hb => s1.get b (hlb b hb)
    refine ha1.len ?_
    refine ifD (fun hlt => ?_) (fun hge => ?_)
    · have hil : i < l.length := by omega
      have him : i < m.length := by omega
      obtain ⟨p, c, rfl, hp, _⟩ := ha1.pos (by omega)
      obtain ⟨q, d, rfl, hq, _⟩ := hb1.pos (by omega)
      repeat (first | refine To.go ?_ | with_reducible refine And.intro (by first | omega | exact ⟨rfl, rfl⟩) ?_ | ((with_reducible apply opt); (· (first | with_reducible assumption | rfl))) | ((with_reducible apply ldrw); (· (first | with_reducible assumption | (simp (disch := omega) only [go_sem, *]; try rfl))); (· (first | with_reducible assumption | rfl))) | ((with_reducible apply ldro); (· (first | with_reducible assumption | (simp (disch := omega) only [go_sem, *]; try rfl))); (· (first | with_reducible assumption | rfl))) | ((with_reducible apply st1); (· (first | with_reducible assumption | (simp (disch := omega) only [go_sem, *]; try rfl))); (· simp); (· rfl)) | with_reducible refine ifT rfl ?_ | with_reducible refine ifF (not_not_intro rfl) ?_ | with_reducible refine ifT (by omega) ?_ | with_reducible refine ifF (by omega) ?_)
      refine ldn_tok hp hil ?_
      repeat (first | refine To.go ?_ | with_reducible refine And.intro (by first | omega | exact ⟨rfl, rfl⟩) ?_ | ((with_reducible apply opt); (· (first | with_reducible assumption | rfl))) | ((with_reducible apply ldrw); (· (first | with_reducible assumption | (simp (disch := omega) only [go_sem, *]; try rfl))); (· (first | with_reducible assumption | rfl))) | ((with_reducible apply ldro); (· (first | with_reducible assumption | (simp (disch := omega) only [go_sem, *]; try rfl))); (· (first | with_reducible assumption | rfl))) | ((with_reducible apply st1); (· (first | with_reducible assumption | (simp (disch := omega) only [go_sem, *]; try rfl))); (· simp); (· rfl)) | with_reducible refine ifT rfl ?_ | with_reducible refine ifF (not_not_intro rfl) ?_ | with_reducible refine ifT (by omega) ?_ | with_reducible refine ifF (by omega) ?_)
      refine ldn_tok hq him ?_
      unfold tokC
      repeat (first | refine To.go ?_ | with_reducible refine And.intro (by first | omega | exact ⟨rfl, rfl⟩) ?_ | ((with_reducible apply opt); (· (first | with_reducible assumption | rfl))) | ((with_reducible apply ldrw); (· (first | with_reducible assumption | (simp (disch := omega) only [go_sem, *]; try rfl))); (· (first | with_reducible assumption | rfl))) | ((with_reducible apply ldro); (· (first | with_reducible assumption | (simp (disch := omega) only [go_sem, *]; try rfl))); (· (first | with_reducible assumption | rfl))) | ((with_reducible apply st1); (· (first | with_reducible assumption | (simp (disch := omega) only [go_sem, *]; try rfl))); (· simp); (· rfl)) | with_reducible refine ifT rfl ?_ | with_reducible refine ifF (not_not_intro rfl) ?_ | with_reducible refine ifT (by omega) ?_ | with_reducible refine ifF (by omega) ?_)
      obtain ⟨t, htl⟩ : ∃ t, l[i] = t := ⟨_, rfl⟩
      obtain ⟨u, hum⟩ : ∃ u, m[i] = u := ⟨_, rfl⟩
      rw [htl, hum]
      refine ifI (fun h => ?_) (fun h => ?_)
      · have htu : t = u := by
          simp at h
          exact Prod.ext h.1 (Prod.ext h.2.1 h.2.2)
        repeat (first | refine To.go ?_ | with_reducible refine And.intro (by first | omega | exact ⟨rfl, rfl⟩) ?_ | ((with_reducible apply opt); (· (first | with_reducible assumption | rfl))) | ((with_reducible apply ldrw); (· (first | with_reducible assumption | (simp (disch := omega) only [go_sem, *]; try rfl))); (· (first | with_reducible assumption | rfl))) | ((with_reducible apply ldro); (· (first | with_reducible assumption | (simp (disch := omega) only [go_sem, *]; try rfl))); (· (first | with_reducible assumption | rfl))) | ((with_reducible apply st1); (· (first | with_reducible assumption | (simp (disch := omega) only [go_sem, *]; try rfl))); (· simp); (· rfl)) | with_reducible refine ifT rfl ?_ | with_reducible refine ifF (not_not_intro rfl) ?_ | with_reducible refine ifT (by omega) ?_ | with_reducible refine ifF (by omega) ?_)
        refine again ⟨i + 1, ⟨by omega, by omega, ?_, s1.bump _⟩, by omega⟩
        rw [List.take_succ_eq_append_getElem hil, List.take_succ_eq_append_getElem him, ht, htl, hum, htu]
      · refine ⟨?_, s1.bump _⟩
        rw [decide_eq_false]
        rintro rfl
        rw [htl] at hum
        subst hum
        simp at h
    · refine ⟨?_, s1.bump _⟩
      rw [decide_eq_true]
      obtain rfl : i = l.length := by omega
      rw [List.take_length, hlen, List.take_length] at ht
      exact ht
/-! ### Where three bytes stand -/
def poss (s : ByteArray) (at' : Nat) (k : ByteArray) : List Nat := (List.range at').filter fun j => decide (j + 3 ≤ s.size ∧ tri s j = k)
theorem poss_succ {s : ByteArray} {j : Nat} (h : j + 3 ≤ s.size) (k : ByteArray) : poss s (j + 1) k = if k = tri s j then poss s j k ++ [j] else poss s j k := by
  unfold poss
  rw [List.range_succ, List.filter_append]
  by_cases hk : tri s j = k
  · rw [if_pos hk.symm]; simp [hk, h]
  · rw [if_neg fun e => hk e.symm]; simp [hk]
theorem poss_past {s : ByteArray} {j : Nat} (h : s.size < j + 3) (k : ByteArray) : poss s (j + 1) k = poss s j k := by
  unfold poss
  rw [List.range_succ, List.filter_append]
  simp [show ¬ (j + 3 ≤ s.size) from by omega]
theorem poss_stop {s : ByteArray} {j : Nat} (h : s.size < j + 3) (k : ByteArray) : ∀ n, poss s (j + n) k = poss s j k
  | 0 => rfl
  | n + 1 => by rw [← Nat.add_assoc, poss_past (by omega), poss_stop h k n]
theorem poss_len (s : ByteArray) (at' : Nat) (k : ByteArray) : (poss s at' k).length ≤ at' := by
  unfold poss
  exact Nat.le_trans (List.length_filter_le _ _) (by simp)
def il (l : List Nat) : List AV := l.map fun j => .int .i64 (j : Nat)
theorem il_len (l : List Nat) : (il l).length = l.length := by simp [il]
theorem il_one (l : List Nat) : (il l).all AV.one = true := by
  rw [List.all_eq_true]
  intro x hx
  simp only [il, List.mem_map] at hx
  obtain ⟨b, _, rfl⟩ := hx
  rfl
/-- The map of the places: f tells its slices. -/
structure Seen (s : ByteArray) (σ : Mem) (c m : Nat) (f : ByteArray → AV) (at' : Nat) : Prop where
  cell : σ.get c = some (.rw [.map m])
  mp : ∃ l n, σ.get m = some (.map (encE l) n) ∧ ∀ k : ByteArray, (look l k).getD .nils = f k
  own : ∀ k, OwnS 1 σ (f k) (il (poss s at' k)) (poss s at' k).length
  lt : ∀ k, ∀ b ∈ blkOf (f k), b < σ.next ∧ b ≠ m ∧ b ≠ c
  apart : ∀ k k', k ≠ k' → ∀ b ∈ blkOf (f k), b ∉ blkOf (f k')
  ne : c ≠ m ∧ c < σ.next ∧ m < σ.next
/-- What a call of the notes may touch. -/
structure Touch (σ σ' : Mem) (m : Nat) (f f' : ByteArray → AV) : Prop where
  next : σ.next ≤ σ'.next
  get : ∀ b < σ.next, b ≠ m → (∀ k, b ∉ blkOf (f k)) → σ'.get b = σ.get b
  new : ∀ k, ∀ b ∈ blkOf (f' k), (∃ k', b ∈ blkOf (f k')) ∨ σ.next ≤ b
theorem Seen.same {s : ByteArray} {σ σ' : Mem} {c m at' : Nat} {f : ByteArray → AV} (h : Seen s σ c m f at') (s' : σ.Same σ') : Seen s σ' c m f at' := by
  obtain ⟨h1, ⟨l, n, h2, h3⟩, h4, h5, h6, h7⟩ := h
  exact ⟨s'.keep h1 h7.2.1, ⟨l, n, s'.keep h2 h7.2.2, h3⟩, fun k => (h4 k).keep fun b hb => s'.get b (h5 k b hb).1, fun k b hb => ⟨Nat.lt_of_lt_of_le (h5 k b hb).1 s'.next, (h5 k b hb).2⟩, h6, h7.1, Nat.lt_of_lt_of_le h7.2.1 s'.next, Nat.lt_of_lt_of_le h7.2.2 s'.next⟩
theorem Touch.refl (σ : Mem) (m : Nat) (f : ByteArray → AV) : Touch σ σ m f f := ⟨Nat.le_refl _, fun _ _ _ _ => rfl, fun k b hb => .inl ⟨k, hb⟩⟩
theorem Touch.trans {σ σ' σ'' : Mem} {m : Nat} {f f' f'' : ByteArray → AV} (h : Touch σ σ' m f f') (h' : Touch σ' σ'' m f' f'') : Touch σ σ'' m f f'' := by
  refine ⟨Nat.le_trans h.next h'.next, fun b hb hm hf => ?_, fun k b hb => ?_⟩
  · refine (h'.get b (Nat.lt_of_lt_of_le hb h.next) hm fun k hk => ?_).trans (h.get b hb hm hf)
    rcases h.new k b hk with ⟨k', h1⟩ | h1
    · exact hf k' h1
    · omega
  · rcases h'.new k b hb with ⟨k', h1⟩ | h1
    · exact h.new k' b h1
    · exact .inr (Nat.le_trans h.next h1)
theorem Touch.same {σ σ' σ'' : Mem} {m : Nat} {f f' : ByteArray → AV} (h : Touch σ σ' m f f') (s : σ'.Same σ'') (hm : m < σ'.next) : Touch σ σ'' m f f' :=
  ⟨Nat.le_trans h.next s.next, fun b hb hm hf => (s.get b (Nat.lt_of_lt_of_le hb h.next)).trans (h.get b hb hm hf), h.new⟩
theorem lz_note {s : ByteArray} {σ : Mem} {p c m i n : Nat} {f : ByteArray → AV} (hs : s.size ≤ 20000) (hp : σ.get p = some (.rw [.str s])) (hpm : p ≠ m ∧ ∀ k, p ∉ blkOf (f k)) (h : Seen s σ c m f i) (hi : i + n ≤ s.size) :
    ACalls PG n_lz_Tokens_1 [.int .i64 i, .int .i64 n, .ptr p 0, .ptr c 0] σ fun r σ' => r = .tup [] ∧ ∃ f', Seen s σ' c m f' (i + n) ∧ Touch σ σ' m f f' := by
  refine ok_lz_Tokens_1 fun live => ?_
  unfold F_lz_Tokens_1
  have hpn := live.lt hp
  refine join0 (fun σ' => ∃ f', Seen s σ' c m f' (i + n) ∧ Touch σ σ' m f f') ?_ ?_
  · refine loop1 (fun (j : Nat) (x : Int) σ' => x = j ∧ i ≤ j ∧ j ≤ i + n ∧ ∃ f', Seen s σ' c m f' j ∧ Touch σ σ' m f f') (fun j => i + n - j) i ⟨rfl, by omega, by omega, f, h.same ((Mem.Same.refl σ).bump 2), (Touch.refl σ m f).same ((Mem.Same.refl σ).bump 2) h.ne.2.2⟩ ?_
    rintro j _ σ1 ⟨rfl, hij, hj, f1, S, T⟩
    unfold F_lz_Tokens_1_l1
    have hfin : ∀ {k}, (s.size < j + 3 ∨ j = i + n) → ∃ f', Seen s (σ1.bump k) c m f' (i + n) ∧ Touch σ (σ1.bump k) m f f' := fun {k} hd => by
      refine ⟨f1, ?_, T.same ((Mem.Same.refl σ1).bump k) S.ne.2.2⟩
      have S' := S.same ((Mem.Same.refl σ1).bump k)
      refine ⟨S'.cell, S'.mp, fun k' => ?_, S'.lt, S'.apart, S'.ne⟩
      have e : poss s (i + n) k' = poss s j k' := by
        rcases hd with hd | rfl
        · rw [show i + n = j + (i + n - j) from by omega, poss_stop hd]
        · rfl
      rw [e]
      exact S'.own k'
    repeat (first | refine To.go ?_ | with_reducible refine And.intro (by first | omega | exact ⟨rfl, rfl⟩) ?_ | ((with_reducible apply opt); (· (first | with_reducible assumption | rfl))) | ((with_reducible apply ldrw); (· (first | with_reducible assumption | (simp (disch := omega) only [go_sem, *]; try rfl))); (· (first | with_reducible assumption | rfl))) | ((with_reducible apply ldro); (· (first | with_reducible assumption | (simp (disch := omega) only [go_sem, *]; try rfl))); (· (first | with_reducible assumption | rfl))) | ((with_reducible apply st1); (· (first | with_reducible assumption | (simp (disch := omega) only [go_sem, *]; try rfl))); (· simp); (· rfl)) | with_reducible refine ifT rfl ?_ | with_reducible refine ifF (not_not_intro rfl) ?_ | with_reducible refine ifT (by omega) ?_ | with_reducible refine ifF (by omega) ?_)
    refine ifD (fun hlt => ?_) (fun hge => ?_)
    · have hp1 : σ1.get p = some (.rw [.str s]) := (T.get p hpn hpm.1 hpm.2).trans hp
      repeat (first | refine To.go ?_ | with_reducible refine And.intro (by first | omega | exact ⟨rfl, rfl⟩) ?_ | ((with_reducible apply opt); (· (first | with_reducible assumption | rfl))) | ((with_reducible apply ldrw); (· (first | with_reducible assumption | (simp (disch := omega) only [go_sem, *]; try rfl))); (· (first | with_reducible assumption | rfl))) | ((with_reducible apply ldro); (· (first | with_reducible assumption | (simp (disch := omega) only [go_sem, *]; try rfl))); (· (first | with_reducible assumption | rfl))) | ((with_reducible apply st1); (· (first | with_reducible assumption | (simp (disch := omega) only [go_sem, *]; try rfl))); (· simp); (· rfl)) | with_reducible refine ifT rfl ?_ | with_reducible refine ifF (not_not_intro rfl) ?_ | with_reducible refine ifT (by omega) ?_ | with_reducible refine ifF (by omega) ?_)
      refine ifD (fun h3 => ?_) (fun h3 => ?_)
      · repeat (first | refine To.go ?_ | with_reducible refine And.intro (by first | omega | exact ⟨rfl, rfl⟩) ?_ | ((with_reducible apply opt); (· (first | with_reducible assumption | rfl))) | ((with_reducible apply ldrw); (· (first | with_reducible assumption | (simp (disch := omega) only [go_sem, *]; try rfl))); (· (first | with_reducible assumption | rfl))) | ((with_reducible apply ldro); (· (first | with_reducible assumption | (simp (disch := omega) only [go_sem, *]; try rfl))); (· (first | with_reducible assumption | rfl))) | ((with_reducible apply st1); (· (first | with_reducible assumption | (simp (disch := omega) only [go_sem, *]; try rfl))); (· simp); (· rfl)) | with_reducible refine ifT rfl ?_ | with_reducible refine ifF (not_not_intro rfl) ?_ | with_reducible refine ifT (by omega) ?_ | with_reducible refine ifF (by omega) ?_)
        have hc := S.cell
        repeat (first | refine To.go ?_ | with_reducible refine And.intro (by first | omega | exact ⟨rfl, rfl⟩) ?_ | ((with_reducible apply opt); (· (first | with_reducible assumption | rfl))) | ((with_reducible apply ldrw); (· (first | with_reducible assumption | (simp (disch := omega) only [go_sem, *]; try rfl))); (· (first | with_reducible assumption | rfl))) | ((with_reducible apply ldro); (· (first | with_reducible assumption | (simp (disch := omega) only [go_sem, *]; try rfl))); (· (first | with_reducible assumption | rfl))) | ((with_reducible apply st1); (· (first | with_reducible assumption | (simp (disch := omega) only [go_sem, *]; try rfl))); (· simp); (· rfl)) | with_reducible refine ifT rfl ?_ | with_reducible refine ifF (not_not_intro rfl) ?_ | with_reducible refine ifT (by omega) ?_ | with_reducible refine ifF (by omega) ?_)
        obtain ⟨l, nn, hm, hl⟩ := S.mp
        rw [show s.extract (j : Int).toNat ((j : Int) + 3).toNat = tri s j from by unfold tri; congr 1 <;> omega]
        refine look_step (a := tri s j) (l := l) hm ?_
        rw [hl]
        repeat (first | refine To.go ?_ | with_reducible refine And.intro (by first | omega | exact ⟨rfl, rfl⟩) ?_ | ((with_reducible apply opt); (· (first | with_reducible assumption | rfl))) | ((with_reducible apply ldrw); (· (first | with_reducible assumption | (simp (disch := omega) only [go_sem, *]; try rfl))); (· (first | with_reducible assumption | rfl))) | ((with_reducible apply ldro); (· (first | with_reducible assumption | (simp (disch := omega) only [go_sem, *]; try rfl))); (· (first | with_reducible assumption | rfl))) | ((with_reducible apply st1); (· (first | with_reducible assumption | (simp (disch := omega) only [go_sem, *]; try rfl))); (· simp); (· rfl)) | with_reducible refine ifT rfl ?_ | with_reducible refine ifF (not_not_intro rfl) ?_ | with_reducible refine ifT (by omega) ?_ | with_reducible refine ifF (by omega) ?_)
        have hplen := poss_len s j (tri s j)
        refine OwnS.append (n := (poss s j (tri s j)).length) (m := 1) (cs := il (poss s j (tri s j))) ((S.own (tri s j)).keep fun b hb => ?_) (fun K hK => src_new gS' rfl rfl K hK) (by omega) rfl rfl (il_one _) (by omega) (fun hb => ?_) ?_
        · have := (S.lt _ b hb).1
          rw [Mem.get_put_ne _ (by omega)]; rfl
        · have := (S.lt _ _ hb).1; omega
        intro v' σ3 own3 hn3 hg3 hb3
        simp only [Mem.next_bump, Mem.next_put] at hn3
        have hne := S.ne
        have hget : ∀ b < σ1.next, b ∉ blkOf (f1 (tri s j)) → σ3.get b = σ1.get b := fun b hb hn => by
          rw [hg3 b hn (by omega), Mem.get_put_ne _ (by omega)]; rfl
        have hc3 := hget c hne.2.1 fun hb => (S.lt _ _ hb).2.2 rfl
        have hm3 := hget m hne.2.2 fun hb => (S.lt _ _ hb).2.1 rfl
        refine To.go ?_
        refine And.intro ?_ ?_
        · rw [hc3, Mem.get_put_ne _ (by omega)]; rfl
        refine mup_step (a := tri s j) (l := l) (hm3.trans hm) ?_
        intro l' c' hl'
        repeat (first | refine To.go ?_ | with_reducible refine And.intro (by first | omega | exact ⟨rfl, rfl⟩) ?_ | ((with_reducible apply opt); (· (first | with_reducible assumption | rfl))) | ((with_reducible apply ldrw); (· (first | with_reducible assumption | (simp (disch := omega) only [go_sem, *]; try rfl))); (· (first | with_reducible assumption | rfl))) | ((with_reducible apply ldro); (· (first | with_reducible assumption | (simp (disch := omega) only [go_sem, *]; try rfl))); (· (first | with_reducible assumption | rfl))) | ((with_reducible apply st1); (· (first | with_reducible assumption | (simp (disch := omega) only [go_sem, *]; try rfl))); (· simp); (· rfl)) | with_reducible refine ifT rfl ?_ | with_reducible refine ifF (not_not_intro rfl) ?_ | with_reducible refine ifT (by omega) ?_ | with_reducible refine ifF (by omega) ?_)
        have hv'1 : ∀ b ∈ blkOf v', b < σ3.next ∧ b ≠ m ∧ b ≠ c ∧ ∀ k, k ≠ tri s j → b ∉ blkOf (f1 k) := fun b hb => by
          rcases hb3 b hb with h | h
          · have := S.lt _ b h
            exact ⟨by omega, this.2.1, this.2.2, fun k hk hb' => S.apart k _ hk b hb' h⟩
          · exact ⟨by omega, by omega, by omega, fun k hk hb' => by have := (S.lt _ b hb').1; omega⟩
        refine again ⟨j + 1, ⟨by omega, by omega, by omega, fun k => if k = tri s j then v' else f1 k, ⟨?_, ⟨l', c', by rw [Mem.get_bump, gS'], fun k => ?_⟩, fun k => ?_, fun k b hb => ?_, fun k k' hk b hb hb' => ?_, ?_⟩, T.trans ⟨?_, fun b hb hbm hf => ?_, fun k b hb => ?_⟩⟩, by omega⟩
        · rw [Mem.get_bump, Mem.get_put_ne _ hne.1, hc3]; exact hc
        · rw [hl']
          split
          · rfl
          · exact hl k
        · rw [poss_succ (by omega)]
          by_cases hk : k = tri s j
          · rw [if_pos hk, if_pos hk, List.length_append, hk]
            rw [show il (poss s j (tri s j) ++ [j]) = il (poss s j (tri s j)) ++ [.int .i64 (j : Nat)] from by simp [il]]
            exact own3.keep fun b hb => by rw [Mem.get_bump, Mem.get_put_ne _ (hv'1 b hb).2.1]
          · rw [if_neg hk, if_neg hk]
            refine (S.own k).keep fun b hb => ?_
            have h1 := S.lt k b hb
            rw [Mem.get_bump, Mem.get_put_ne _ h1.2.1, hget b h1.1 fun hb' => S.apart k _ hk b hb hb']
        · simp only [Mem.next_bump, Mem.next_put]
          by_cases hk : k = tri s j
          · rw [if_pos hk] at hb
            have := hv'1 b hb
            exact ⟨by omega, this.2.1, this.2.2.1⟩
          · rw [if_neg hk] at hb
            have := S.lt k b hb
            exact ⟨by omega, this.2.1, this.2.2⟩
        · by_cases h1 : k = tri s j
          · rw [if_pos h1] at hb
            rw [if_neg fun e => hk (h1.trans e.symm)] at hb'
            exact (hv'1 b hb).2.2.2 k' (fun e => hk (h1.trans e.symm)) hb'
          · rw [if_neg h1] at hb
            by_cases h2 : k' = tri s j
            · rw [if_pos h2] at hb'
              exact (hv'1 b hb').2.2.2 k h1 hb
            · rw [if_neg h2] at hb'
              exact S.apart k k' hk b hb hb'
        · simp only [Mem.next_bump, Mem.next_put]; exact ⟨hne.1, by omega, by omega⟩
        · simp only [Mem.next_bump, Mem.next_put]; omega
        · rw [Mem.get_bump, Mem.get_put_ne _ hbm, hget b hb (hf _)]
        · have hb := hb
          by_cases hk : k = tri s j
          · rw [if_pos hk] at hb
            rcases hb3 b hb with h | h
            · exact .inl ⟨_, h⟩
            · exact .inr (by omega)
          · rw [if_neg hk] at hb
            exact .inl ⟨k, hb⟩
      · exact hfin (.inl (by omega))
    · exact hfin (.inr (by omega))
  · rintro σ1 h1
    exact ⟨rfl, h1⟩
end Go.Vit
