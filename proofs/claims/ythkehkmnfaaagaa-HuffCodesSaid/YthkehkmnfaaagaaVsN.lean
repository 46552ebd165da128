/- Lists that may be read; lists that are owned and lie behind a place; arguments. -/
import Derived.Test.YthkehkmnfaaagaaVsM
set_option linter.unusedVariables false
set_option linter.unusedSimpArgs false
namespace Go.Vit
/-- A list that is owned, whose memory lies behind a place. -/
def Own (k : Nat) (σ σ' : Mem) (v : AV) (cs : List AV) (n : Nat) : Prop := OwnS k σ' v cs n ∧ ∀ b ∈ blkOf v, σ.next ≤ b ∧ b < σ'.next
theorem Own.same {k n : Nat} {σ σ1 σ2 : Mem} {v : AV} {cs : List AV} (h : Own k σ σ1 v cs n) (s : σ1.Same σ2) : Own k σ σ2 v cs n :=
  ⟨h.1.keep fun b hb => s.get b (h.2 b hb).2, fun b hb => ⟨(h.2 b hb).1, Nat.lt_of_lt_of_le (h.2 b hb).2 s.next⟩⟩
theorem Own.only {k n : Nat} {σ σ1 σ2 : Mem} {v : AV} {cs : List AV} {l : List Nat} (h : Own k σ σ1 v cs n) (s : Mem.Only l σ1 σ2) (hl : ∀ b ∈ blkOf v, b ∉ l) : Own k σ σ2 v cs n :=
  ⟨h.1.keep fun b hb => s.get b (h.2 b hb).2 (hl b hb), fun b hb => ⟨(h.2 b hb).1, Nat.lt_of_lt_of_le (h.2 b hb).2 s.next⟩⟩
theorem Own.nil (k : Nat) (σ σ' : Mem) : Own k σ σ' .nils [] 0 := ⟨.nil k σ', fun b hb => by simp [blkOf] at hb⟩
/-- A new cell block is made, and its cells are put behind the list. -/
theorem Own.push {k bytes id nb n m j : Nat} {σ σ1 : Mem} {v : AV} {cs c : List AV} {K : AV → Mem → Prop} (h : Own k σ σ1 v cs n) (s : σ.Same σ1) {σ2 : Mem} (hσ2 : σ2 = (σ1.bump j).put nb (some (.rw c))) (hnb : σ1.next ≤ nb) (hid : nb < id) (hm : m ≠ 0) (hc : c.length = m * k)
    (h1 : c.all AV.one = true) (h2 : cs.all AV.one = true) (hr : (n + m) * bytes ≤ 140737488355328 ∧ n + m ≤ 9223372036854775806) {c' : Cap}
    (hk : ∀ v' σ', Own k σ σ' v' (cs ++ c) (n + m) → σ.Same σ' → id < σ'.next → Mem.Only (blkOf v) σ1 σ' → (∀ b ∈ blkOf v', b ∈ blkOf v ∨ b = id) → K v' σ')(hlt : id < σ2.next) : apW k bytes id σ2 v (.slice nb 0 m c') K := by
  subst hσ2
  refine OwnS.append (n := n) (m := m) (cs := cs) (c := c) (h.1.keep fun b hb => by rw [Mem.get_put_ne _ (by have := (h.2 b hb).2; omega)]; rfl) (fun K hK => src_new (Mem.get_put_self _ _ _) hc rfl K hK) (fun h => absurd h hm) hc h1 h2 hr (fun hb => by have := (h.2 _ hb).2; omega) ?_
  intro v' σ3 own3 hn3 hg3 hb3
  rw [Mem.next_put, Mem.next_bump] at hn3 hlt
  have o : Mem.Only (blkOf v) σ1 σ3 := ⟨by omega, fun b hb hn => by rw [hg3 b hn (by omega), Mem.get_put_ne _ (by omega)]; rfl⟩
  refine hk v' σ3 ⟨own3, fun b hb => ?_⟩ ⟨Nat.le_trans s.next o.next, fun b hb => ?_⟩ (by omega) o hb3
  · rcases hb3 b hb with h' | rfl
    · have := h.2 b h'; omega
    · have := s.next; omega
  · rw [o.get b (Nat.lt_of_lt_of_le hb s.next) fun h' => by have := h.2 b h'; omega]
    exact s.get b hb
/-- A list that may be read. -/
def RdS (k : Nat) (σ : Mem) (v : AV) (cs : List AV) (n : Nat) : Prop :=
  (v = .nils ∧ n = 0 ∧ cs = []) ∨ ∃ b c, v = .slice b 0 n c ∧ (∃ q, σ.get b = some q ∧ q.cellsR = some cs) ∧ cs.length = n * k
theorem OwnS.rd {k n : Nat} {σ : Mem} {v : AV} {cs : List AV} (h : OwnS k σ v cs n) : RdS k σ v cs n := by
  rcases h with h | ⟨b, h1, h2, h3⟩
  · exact .inl h
  · exact .inr ⟨b, _, h1, ⟨_, h2, rfl⟩, h3⟩
theorem RdS.len {k n : Nat} {σ : Mem} {v : AV} {cs : List AV} (h : RdS k σ v cs n) {K : Int → Prop} (hk : K (n : Nat)) : slenW v K := by
  rcases h with ⟨rfl, rfl, rfl⟩ | ⟨b, c, rfl, _⟩ <;> exact hk
theorem RdS.pos {k n : Nat} {σ : Mem} {v : AV} {cs : List AV} (h : RdS k σ v cs n) (hn : 0 < n) : ∃ b c, v = .slice b 0 n c ∧ (∃ q, σ.get b = some q ∧ q.cellsR = some cs) ∧ cs.length = n * k := by
  rcases h with ⟨_, h, _⟩ | h
  · omega
  · exact h
theorem RdS.keep {k n : Nat} {σ σ' : Mem} {v : AV} {cs : List AV} (h : RdS k σ v cs n) (hb : ∀ b ∈ blkOf v, σ'.get b = σ.get b) : RdS k σ' v cs n := by
  rcases h with h | ⟨b, c, rfl, ⟨q, h1, h2⟩, h3⟩
  · exact .inl h
  · exact .inr ⟨b, c, rfl, ⟨q, (hb b (by simp [blkOf])).trans h1, h2⟩, h3⟩
theorem RdS.lt {k n : Nat} {σ : Mem} {v : AV} {cs : List AV} (h : RdS k σ v cs n) (live : σ.Live) : ∀ b ∈ blkOf v, b < σ.next := by
  rcases h with ⟨rfl, _⟩ | ⟨b, c, rfl, ⟨q, h1, h2⟩, h3⟩
  · intro b hb; simp [blkOf] at hb
  · intro c hc; simp [blkOf] at hc; subst hc; exact live.lt h1
/-- Some cells of a block, and one. -/
theorem ldn_rd {σ : Mem} {b o n : Nat} {cs : List AV} {K : AV → Prop} (h : ∃ q, σ.get b = some q ∧ q.cellsR = some cs) (hn : o + n ≤ cs.length) (hk : K (.agg ((cs.drop o).take n))) : ldnW n σ (.ptr b o) K := by
  obtain ⟨q, h1, h2⟩ := h
  exact ldnq h1 h2 hn hk
theorem ld_rd {σ : Mem} {b o : Nat} {cs : List AV} {v : AV} {K : AV → Prop} (h : ∃ q, σ.get b = some q ∧ q.cellsR = some cs) (hn : cs[o]? = some v) (hk : K v) : ldW σ (.ptr b o) K := by
  obtain ⟨q, h1, h2⟩ := h
  exact ldq h1 (by rw [h2]; exact hn) hk
theorem src_rd {σ : Mem} {k n : Nat} {v : AV} {cs : List AV} (h : RdS k σ v cs n) (K : Nat → List AV → Prop) (hk : K n cs) : srcW σ k v K := by
  rcases h with ⟨rfl, rfl, rfl⟩ | ⟨b, c, rfl, ⟨q, h1, h2⟩, h3⟩
  · exact hk
  · refine opt (a := σ.cells b 0 (n * k)) (v := cs) ?_ hk
    unfold Mem.cells
    rw [h1, Option.bind_some, h2, Option.bind_some, if_pos (by omega), List.drop_zero, ← h3, List.take_length]
/-- Cells are put behind a new list that has none. -/
theorem ap_fresh {k bytes id nb n : Nat} {σ : Mem} {x : AV} {cs : List AV} {K : AV → Mem → Prop} (hb : σ.get nb = some (.rw [])) (hx : RdS k σ x cs n) (h1 : cs.all AV.one = true) (hr : n * bytes ≤ 140737488355328 ∧ n ≤ 9223372036854775806)
    (h0 : n = 0 → K (.slice nb 0 0 (.ex 0)) σ) (hk : n ≠ 0 → K (.slice id 0 n (.op k)) (σ.put id (some (.rw cs)))) : apW k bytes id σ (.slice nb 0 0 (.ex 0)) x K := by
  unfold apW
  refine src_rd hx _ ⟨h1, h0, fun hn => ⟨fun h => absurd h (by omega), fun _ => ⟨by rw [Nat.zero_add]; exact hr, ?_⟩⟩⟩
  refine opt (v := []) ?_ ⟨rfl, ?_⟩
  · rw [Mem.cells_of hb]; simp
  · rw [Nat.zero_add]; exact hk hn
theorem Grow.same {o o' : List Nat} {σ σ1 σ2 : Mem} (h : Grow o o' σ1 σ2) (s : σ.Same σ1) (ho : ∀ b ∈ o, σ.next ≤ b) : σ.Same σ2 ∧ ∀ b ∈ o', σ.next ≤ b := by
  refine ⟨⟨Nat.le_trans s.next h.only.next, fun b hb => ?_⟩, fun b hb => ?_⟩
  · refine (h.only.get b (Nat.lt_of_lt_of_le hb s.next) fun hm => ?_).trans (s.get b hb)
    have := ho b hm; omega
  · rcases h.new b hb with h1 | h1
    · exact ho b h1
    · exact Nat.le_trans s.next h1
theorem setAt_all : ∀ (vc pre l : List AV), l.length = vc.length → setAt (pre ++ l) pre.length vc = pre ++ vc
  | [], pre, l, h => by
    obtain rfl := List.length_eq_zero_iff.1 h
    rfl
  | c :: cs, pre, [], h => by simp at h
  | c :: cs, pre, x :: l, h => by
    show setAt ((pre ++ x :: l).set pre.length c) (pre.length + 1) cs = _
    have e : (pre ++ x :: l).set pre.length c = (pre ++ [c]) ++ l := by
      rw [List.set_append_right _ _ (Nat.le_refl _), Nat.sub_self]; simp
    have := setAt_all cs (pre ++ [c]) l (by simpa using h)
    rw [List.length_append] at this
    rw [e]
    rw [show (pre ++ [c]) ++ cs = pre ++ c :: cs from by simp] at this
    exact this
theorem setAt_whole {l vc : List AV} (h : l.length = vc.length) : setAt l 0 vc = vc := setAt_all vc [] l h
/-! ### Arguments -/
section
variable {P : Program} {σ : Mem}
theorem wt_int {t : TypeId} {c : List AV} (hu : P.underlying t = some (.int .i64)) (h : Wt P σ t c) : ∃ n : Int, c = [.int .i64 n] ∧ -9223372036854775808 ≤ n ∧ n ≤ 9223372036854775807 := by
  obtain ⟨n, hc, hn⟩ := h.int_inv hu
  exact ⟨n, hc, wf_i64 hn⟩
/-- A list of numbers as an argument. -/
theorem Wts.ints {t e : TypeId} {ts : List TypeId} {l : List AV} (hu : P.underlying t = some (.slice e)) (he : P.underlying e = some (.int .i64)) (hc : P.cellsOf e = 1) (hb : P.bytesOf e = 8) (h : Wts P σ (t :: ts) l) :
    ∃ a r L, l = a :: r ∧ Wts P σ ts r ∧ RdS 1 σ a (ic L) L.length ∧ L.length ≤ 2 ^ 44 ∧ ∀ x ∈ L, -9223372036854775808 ≤ x ∧ x ≤ 9223372036854775807 := by
  obtain ⟨a, r, rfl, hs, h⟩ := h.slice hu
  rcases h with rfl | ⟨b, n, l, rfl, hg, hn, hl, hw⟩
  · exact ⟨_, r, [], rfl, hs, .inl ⟨rfl, rfl, rfl⟩, by simp, fun x h => by simp at h⟩
  · rw [hc] at hl hw
    obtain ⟨L, h1, h2, h3⟩ := slice_decode (enc := fun n : Int => [AV.int .i64 n]) (good := fun x => -9223372036854775808 ≤ x ∧ x ≤ 9223372036854775807) (fun c hc => wt_int he hc) hl hw
    have h4 : l = ic L := by rw [h2]; unfold ic; rw [List.map_eq_flatMap]
    exact ⟨_, r, L, rfl, hs, .inr ⟨b, _, by rw [h1], ⟨_, hg, by rw [← h4]; rfl⟩, by rw [ic_len, Nat.mul_one]⟩, by rw [hb, reach_eq] at hn; omega, h3⟩
end
end Go.Vit
