/- The library. -/
import Derived.Test.YthkehkmnfaaagaaVm2
set_option linter.unusedVariables false
set_option linter.unusedSimpArgs false

section
namespace Go.Vit
class Key (α : Type) [DecidableEq α] where
  enc : α → AV
  eq : ∀ a b, keyEq (enc a) (enc b) = some (decide (a = b))
instance : Key ByteArray := ⟨.str, fun a b => by
  show some (a.data.toList == b.data.toList) = _
  congr 1
  rcases a with ⟨a⟩
  rcases b with ⟨b⟩
  by_cases h : a = b
  · subst h; simp
  · have h1 : ByteArray.mk a ≠ ByteArray.mk b := fun e => h (by injection e)
    have h2 : a.toList ≠ b.toList := fun e => h (Array.toList_inj.1 e)
    rw [decide_eq_false h1]
    exact beq_false_of_ne h2⟩
instance : Key Int := ⟨.int .i64, fun a b => by
  show (if IntKind.i64 = IntKind.i64 then some (a == b) else none) = _
  rw [if_pos rfl]
  by_cases h : a = b
  · subst h; simp
  · simp [h]⟩
section
variable {α : Type} [DecidableEq α]
end
section
variable {α : Type} [DecidableEq α] [Key α]
end
end Go.Vit
end

section
namespace Go.Vit
theorem OwnS.sl {k n : Nat} {σ : Mem} {v : AV} {cs : List AV} (h : OwnS k σ v cs n) (hn : 0 < n) : ∃ b, v = .slice b 0 n (.op k) ∧ σ.get b = some (.rw cs) ∧ cs.length = n * k := by
  rcases h with ⟨_, h, _⟩ | h
  · omega
  · exact h
abbrev Tok := Int × Int × Int
def agr (s : ByteArray) (i d n : Nat) : Prop := i + n < s.size ∧ byteAt s (i + n) = byteAt s (i + n - d)
instance (s : ByteArray) (i d n : Nat) : Decidable (agr s i d n) := inferInstanceAs (Decidable (_ ∧ _))
def mlF (s : ByteArray) (i d : Nat) : Nat → Nat → Nat
  | 0, n => n
  | f + 1, n => if agr s i d n then mlF s i d f (n + 1) else n
def ml (s : ByteArray) (i d : Nat) : Nat := mlF s i d 258 0
def rb (s : ByteArray) (i : Nat) : Nat → Nat × Nat
  | 0 => (0, 0)
  | d + 1 => if (rb s i d).1 < ml s i (d + 1) then (ml s i (d + 1), d + 1) else rb s i d
def best (s : ByteArray) (i : Nat) : Nat × Nat := rb s i (min 512 i)
def tk (s : ByteArray) (i : Nat) : Tok × Nat :=
  if 3 ≤ (best s i).1 then ((0, (best s i).1, (best s i).2), i + (best s i).1) else (((byteAt s i : Nat), 0, 0), i + 1)
def pos (s : ByteArray) : Nat → Nat
  | 0 => 0
  | k + 1 => (tk s (pos s k)).2
end Go.Vit
end

section
namespace Go.Vit
def right (t : Tok) : Prop := if t.2.1 = 0 then t.2.2 = 0 ∧ 0 ≤ t.1 ∧ t.1 ≤ 255 else t.1 = 0 ∧ 3 ≤ t.2.1 ∧ t.2.1 ≤ 258 ∧ 1 ≤ t.2.2 ∧ t.2.2 ≤ 32768
instance (t : Tok) : Decidable (right t) := by unfold right; infer_instance
/-! ### What the tokens of bytes say -/
end Go.Vit
end

section
namespace Go.Vit
def ic (l : List Int) : List AV := l.map fun n => .int .i64 n
theorem ic_len (l : List Int) : (ic l).length = l.length := by simp [ic]
theorem ic_get {l : List Int} {i : Nat} (h : i < l.length) : (ic l)[i]? = some (.int .i64 l[i]) := by simp [ic, List.getElem?_eq_getElem h]
theorem ic_one (l : List Int) : (ic l).all AV.one = true := by
  rw [List.all_eq_true]
  intro x hx
  simp only [ic, List.mem_map] at hx
  obtain ⟨b, _, rfl⟩ := hx
  rfl
theorem ic_set (l : List Int) (i : Nat) (n : Int) : (ic l).set i (.int .i64 n) = ic (l.set i n) := by unfold ic; rw [List.map_set]
def arr (f : Nat → Int) (n : Nat) : List Int := (List.range n).map f
theorem arr_len (f : Nat → Int) (n : Nat) : (arr f n).length = n := by simp [arr]
theorem arr_get {f : Nat → Int} {n i : Nat} (h : i < n) : (ic (arr f n))[i]? = some (.int .i64 (f i)) := by
  rw [ic_get (by rw [arr_len]; exact h)]; simp [arr]
theorem arr_set {f : Nat → Int} {n i : Nat} (v : Int) : (arr f n).set i v = arr (fun j => if j = i then v else f j) n := by
  refine List.ext_getElem (by simp [arr]) fun k h1 h2 => ?_
  rw [List.getElem_set]
  simp only [arr, List.getElem_map, List.getElem_range]
  by_cases h : i = k
  · rw [if_pos h, if_pos h.symm]
  · rw [if_neg h, if_neg fun e => h e.symm]
theorem arr_ext {f g : Nat → Int} {n : Nat} (h : ∀ j < n, f j = g j) : arr f n = arr g n :=
  List.map_congr_left fun j hj => h j (List.mem_range.1 hj)
theorem arr_zero (n : Nat) : List.replicate n (AV.int .i64 0) = ic (arr (fun _ => 0) n) := by
  refine List.ext_getElem (by simp [ic, arr]) fun i h1 h2 => ?_
  simp [ic, arr]
theorem repl_zero (n : Nat) : repl n [.int .i64 0] = ic (arr (fun _ => 0) n) := by
  rw [← arr_zero]; rfl
/-! ### How many codes there are of each length -/
def cN (L : List Int) (n : Nat) : Nat := L.countP fun (x : Int) => decide (0 < x ∧ x = (n : Int))
theorem cN_append (L M : List Int) (n : Nat) : cN (L ++ M) n = cN L n + cN M n := by unfold cN; rw [List.countP_append]
theorem cN_cons (x : Int) (L : List Int) (n : Nat) : cN (x :: L) n = cN L n + if 0 < x ∧ x = n then 1 else 0 := by
  unfold cN; rw [List.countP_cons]; simp
theorem cN_le (L : List Int) (n : Nat) : cN L n ≤ L.length := List.countP_le_length
theorem cN_take_succ {L : List Int} {i : Nat} (h : i < L.length) (n : Nat) : cN (L.take (i + 1)) n = cN (L.take i) n + if 0 < L[i] ∧ L[i] = n then 1 else 0 := by
  rw [List.take_succ_eq_append_getElem h, cN_append, cN_cons]; simp [cN]
theorem cN_take_le (L : List Int) (i n : Nat) : cN (L.take i) n ≤ cN L n := (List.take_sublist i L).countP_le
def many (L : List Int) : Nat := L.countP fun x => decide (0 < x)
def room (L : List Int) : Nat := (L.map fun x => if 0 < x then 2 ^ (15 - x).toNat else 0).sum
def lens (L : List Int) : Prop := L.length ≤ 288 ∧ ∀ x ∈ L, 0 ≤ x ∧ x ≤ 15
instance (L : List Int) : Decidable (lens L) := by unfold lens; infer_instance
def msum (c : Nat → Nat) : Nat → Nat
  | 0 => 0
  | k + 1 => msum c k + c k
def wsum (c : Nat → Nat) : Nat → Nat
  | 0 => 0
  | k + 1 => wsum c k + c k * 2 ^ (15 - k)
theorem msum_upd {c c' : Nat → Nat} {x : Nat} (h : ∀ n, c' n = c n + if x = n then 1 else 0) : ∀ k, msum c' k = msum c k + if x < k then 1 else 0
  | 0 => by simp [msum]
  | k + 1 => by
    rw [msum, msum, msum_upd h k, h k]
    split <;> split <;> split <;> omega
theorem wsum_upd {c c' : Nat → Nat} {x : Nat} (h : ∀ n, c' n = c n + if x = n then 1 else 0) : ∀ k, wsum c' k = wsum c k + if x < k then 2 ^ (15 - x) else 0
  | 0 => by simp [wsum]
  | k + 1 => by
    rw [wsum, wsum, wsum_upd h k, h k, Nat.add_mul]
    by_cases h1 : x = k
    · subst h1
      rw [if_neg (by omega), if_pos rfl, if_pos (by omega), Nat.one_mul]; omega
    · rw [if_neg h1, Nat.zero_mul]
      by_cases h2 : x < k
      · rw [if_pos h2, if_pos (by omega)]; omega
      · rw [if_neg h2, if_neg (by omega)]; omega
theorem msum_same {c c' : Nat → Nat} (h : ∀ n, c' n = c n) : ∀ k, msum c' k = msum c k
  | 0 => rfl
  | k + 1 => by rw [msum, msum, msum_same h k, h k]
theorem wsum_same {c c' : Nat → Nat} (h : ∀ n, c' n = c n) : ∀ k, wsum c' k = wsum c k
  | 0 => rfl
  | k + 1 => by rw [wsum, wsum, wsum_same h k, h k]
theorem sums {L : List Int} (h : ∀ x ∈ L, 0 ≤ x ∧ x ≤ 15) : msum (cN L) 16 = many L ∧ wsum (cN L) 16 = room L := by
  induction L with
  | nil => exact ⟨rfl, rfl⟩
  | cons x L ih =>
    obtain ⟨h1, h2⟩ := ih fun y hy => h y (List.mem_cons_of_mem _ hy)
    have hx := h x (by simp)
    unfold many room at *
    rw [List.countP_cons, List.map_cons, List.sum_cons]
    by_cases h0 : 0 < x
    · obtain ⟨m, rfl⟩ := int_nat hx.1
      have hu : ∀ n, cN ((m : Int) :: L) n = cN L n + if m = n then 1 else 0 := fun n => by
        rw [cN_cons]
        congr 1
        by_cases e : m = n
        · subst e; rw [if_pos ⟨h0, rfl⟩, if_pos rfl]
        · rw [if_neg fun e' => e (by omega), if_neg e]
      rw [msum_upd hu, wsum_upd hu, h1, h2, if_pos (show m < 16 by omega), if_pos (show m < 16 by omega), if_pos h0, show ((15 : Int) - m).toNat = 15 - m from by omega]
      exact ⟨by rw [if_pos (decide_eq_true h0)], Nat.add_comm _ _⟩
    · have hu : ∀ n, cN (x :: L) n = cN L n := fun n => by rw [cN_cons, if_neg (by omega), Nat.add_zero]
      rw [msum_same hu, wsum_same hu, h1, h2, if_neg h0]
      exact ⟨by simp [h0], by omega⟩
theorem wsum_le {c : Nat → Nat} {k : Nat} : ∀ {m : Nat}, k ≤ m → wsum c k ≤ wsum c m
  | 0, h => by obtain rfl : k = 0 := by omega
               exact Nat.le_refl _
  | m + 1, h => by
    rcases Nat.eq_or_lt_of_le h with rfl | h
    · exact Nat.le_refl _
    · have := wsum_le (c := c) (k := k) (m := m) (by omega)
      rw [wsum]; omega
theorem msum_le {c : Nat → Nat} {k : Nat} : ∀ {m : Nat}, k ≤ m → msum c k ≤ msum c m
  | 0, h => by obtain rfl : k = 0 := by omega
               exact Nat.le_refl _
  | m + 1, h => by
    rcases Nat.eq_or_lt_of_le h with rfl | h
    · exact Nat.le_refl _
    · have := msum_le (c := c) (k := k) (m := m) (by omega)
      rw [msum]; omega
def chk (L : List Int) : Int :=
  if ¬ lens L then 1 else if 32768 < room L then 10 else if room L < 32768 ∧ 0 < many L ∧ ¬ (many L = 1 ∧ cN L 1 ≠ 0) then 11 else 0
theorem many_le (L : List Int) : many L ≤ L.length := List.countP_le_length
theorem room_le (L : List Int) : room L ≤ L.length * 32768 := by
  unfold room
  induction L with
  | nil => simp
  | cons x L ih =>
    rw [List.map_cons, List.sum_cons, List.length_cons, Nat.add_mul]
    have : (if 0 < x then 2 ^ (15 - x).toNat else 0) ≤ 32768 := by
      split
      · exact pow_le (b := 15) (by omega)
      · omega
    omega
def most (L : List Int) : Int := L.foldl (fun m x => if 0 < x then max m x else m) 0
end Go.Vit
end

section
namespace Go.Vit
def Own (k : Nat) (σ σ' : Mem) (v : AV) (cs : List AV) (n : Nat) : Prop := OwnS k σ' v cs n ∧ ∀ b ∈ blkOf v, σ.next ≤ b ∧ b < σ'.next
theorem Own.same {k n : Nat} {σ σ1 σ2 : Mem} {v : AV} {cs : List AV} (h : Own k σ σ1 v cs n) (s : σ1.Same σ2) : Own k σ σ2 v cs n :=
  ⟨h.1.keep fun b hb => s.get b (h.2 b hb).2, fun b hb => ⟨(h.2 b hb).1, Nat.lt_of_lt_of_le (h.2 b hb).2 s.next⟩⟩
theorem Own.only {k n : Nat} {σ σ1 σ2 : Mem} {v : AV} {cs : List AV} {l : List Nat} (h : Own k σ σ1 v cs n) (s : Mem.Only l σ1 σ2) (hl : ∀ b ∈ blkOf v, b ∉ l) : Own k σ σ2 v cs n :=
  ⟨h.1.keep fun b hb => s.get b (h.2 b hb).2 (hl b hb), fun b hb => ⟨(h.2 b hb).1, Nat.lt_of_lt_of_le (h.2 b hb).2 s.next⟩⟩
theorem Own.nil (k : Nat) (σ σ' : Mem) : Own k σ σ' .nils [] 0 := ⟨.nil k σ', fun b hb => by simp [blkOf] at hb⟩
theorem Own.push {k bytes id nb n m j : Nat} {σ σ1 : Mem} {v : AV} {cs c : List AV} {K : AV → Mem → Prop} (h : Own k σ σ1 v cs n) (s : σ.Same σ1) {σ2 : Mem} (hσ2 : σ2 = (σ1.bump j).put nb (some (.rw c))) (hnb : σ1.next ≤ nb) (hid : nb < id) (hm : m ≠ 0) (hc : c.length = m * k)
    (h1 : c.all AV.one = true) (h2 : cs.all AV.one = true) (hr : (n + m) * bytes ≤ 140737488355328 ∧ n + m ≤ 9223372036854775806) {c' : Cap}
    (hk : ∀ v' σ', Own k σ σ' v' (cs ++ c) (n + m) → σ.Same σ' → id < σ'.next → Mem.Only (blkOf v) σ1 σ' → (∀ b ∈ blkOf v', b ∈ blkOf v ∨ b = id) → K v' σ')(hlt : id < σ2.next) : apW k bytes id σ2 v (.slice nb 0 m c') K := by
  subst hσ2
  refine OwnS.append (n := n) (m := m) (cs := cs) (c := c) (h.1.keep fun b hb => by rw [Mem.get_put_ne _ (by have := (h.2 b hb).2; omega)]; rfl) (fun K hK => src_new (Mem.get_put_self _ _ _) hc rfl K hK) (fun h => absurd h hm) hc h1 h2 hr (fun hb => by have := (h.2 _ hb).2; omega) ?_
  intro v' σ3 own3 hn3 hg3 hb3
  rw [Mem.next_put, Mem.next_bump] at hn3 hlt
  have o : Mem.Only (blkOf v) σ1 σ3 := ⟨by omega, fun b hb hn => by rw [hg3 b hn (by omega), Mem.get_put_ne _ (by omega)]; rfl⟩
  refine hk v' σ3 ⟨own3, fun b hb => ?_⟩ ⟨Nat.le_trans s.next o.next, fun b hb => ?_⟩ (by omega) o hb3
  · rcases hb3 b hb with h' | rfl
    · have := h.2 b h'; omega
    · have := s.next; omega
  · rw [o.get b (Nat.lt_of_lt_of_le hb s.next) fun h' => by have := h.2 b h'; omega]
    exact s.get b hb
def RdS (k : Nat) (σ : Mem) (v : AV) (cs : List AV) (n : Nat) : Prop :=
  (v = .nils ∧ n = 0 ∧ cs = []) ∨ ∃ b c, v = .slice b 0 n c ∧ (∃ q, σ.get b = some q ∧ q.cellsR = some cs) ∧ cs.length = n * k
theorem OwnS.rd {k n : Nat} {σ : Mem} {v : AV} {cs : List AV} (h : OwnS k σ v cs n) : RdS k σ v cs n := by
  rcases h with h | ⟨b, h1, h2, h3⟩
  · exact .inl h
  · exact .inr ⟨b, _, h1, ⟨_, h2, rfl⟩, h3⟩
theorem RdS.len {k n : Nat} {σ : Mem} {v : AV} {cs : List AV} (h : RdS k σ v cs n) {K : Int → Prop} (hk : K (n : Nat)) : slenW v K := by
  rcases h with ⟨rfl, rfl, rfl⟩ | ⟨b, c, rfl, _⟩ <;> exact hk
theorem RdS.pos {k n : Nat} {σ : Mem} {v : AV} {cs : List AV} (h : RdS k σ v cs n) (hn : 0 < n) : ∃ b c, v = .slice b 0 n c ∧ (∃ q, σ.get b = some q ∧ q.cellsR = some cs) ∧ cs.length = n * k := by
  rcases h with ⟨_, h, _⟩ | h
  · omega
  · exact h
theorem RdS.keep {k n : Nat} {σ σ' : Mem} {v : AV} {cs : List AV} (h : RdS k σ v cs n) (hb : ∀ b ∈ blkOf v, σ'.get b = σ.get b) : RdS k σ' v cs n := by
  rcases h with h | ⟨b, c, rfl, ⟨q, h1, h2⟩, h3⟩
  · exact .inl h
  · exact .inr ⟨b, c, rfl, ⟨q, (hb b (by simp [blkOf])).trans h1, h2⟩, h3⟩
theorem RdS.lt {k n : Nat} {σ : Mem} {v : AV} {cs : List AV} (h : RdS k σ v cs n) (live : σ.Live) : ∀ b ∈ blkOf v, b < σ.next := by
  rcases h with ⟨rfl, _⟩ | ⟨b, c, rfl, ⟨q, h1, h2⟩, h3⟩
  · intro b hb; simp [blkOf] at hb
  · intro c hc; simp [blkOf] at hc; subst hc; exact live.lt h1
theorem ld_rd {σ : Mem} {b o : Nat} {cs : List AV} {v : AV} {K : AV → Prop} (h : ∃ q, σ.get b = some q ∧ q.cellsR = some cs) (hn : cs[o]? = some v) (hk : K v) : ldW σ (.ptr b o) K := by
  obtain ⟨q, h1, h2⟩ := h
  exact ldq h1 (by rw [h2]; exact hn) hk
theorem Grow.same {o o' : List Nat} {σ σ1 σ2 : Mem} (h : Grow o o' σ1 σ2) (s : σ.Same σ1) (ho : ∀ b ∈ o, σ.next ≤ b) : σ.Same σ2 ∧ ∀ b ∈ o', σ.next ≤ b := by
  refine ⟨⟨Nat.le_trans s.next h.only.next, fun b hb => ?_⟩, fun b hb => ?_⟩
  · refine (h.only.get b (Nat.lt_of_lt_of_le hb s.next) fun hm => ?_).trans (s.get b hb)
    have := ho b hm; omega
  · rcases h.new b hb with h1 | h1
    · exact ho b h1
    · exact Nat.le_trans s.next h1
theorem setAt_all : ∀ (vc pre l : List AV), l.length = vc.length → setAt (pre ++ l) pre.length vc = pre ++ vc
  | [], pre, l, h => by
    obtain rfl := List.length_eq_zero_iff.1 h
    rfl
  | c :: cs, pre, [], h => by simp at h
  | c :: cs, pre, x :: l, h => by
    show setAt ((pre ++ x :: l).set pre.length c) (pre.length + 1) cs = _
    have e : (pre ++ x :: l).set pre.length c = (pre ++ [c]) ++ l := by
      rw [List.set_append_right _ _ (Nat.le_refl _), Nat.sub_self]; simp
    have := setAt_all cs (pre ++ [c]) l (by simpa using h)
    rw [List.length_append] at this
    rw [e]
    rw [show (pre ++ [c]) ++ cs = pre ++ c :: cs from by simp] at this
    exact this
theorem setAt_whole {l vc : List AV} (h : l.length = vc.length) : setAt l 0 vc = vc := setAt_all vc [] l h
/-! ### Arguments -/
section
variable {P : Program} {σ : Mem}
theorem wt_int {t : TypeId} {c : List AV} (hu : P.underlying t = some (.int .i64)) (h : Wt P σ t c) : ∃ n : Int, c = [.int .i64 n] ∧ -9223372036854775808 ≤ n ∧ n ≤ 9223372036854775807 := by
  obtain ⟨n, hc, hn⟩ := h.int_inv hu
  exact ⟨n, hc, wf_i64 hn⟩
theorem Wts.ints {t e : TypeId} {ts : List TypeId} {l : List AV} (hu : P.underlying t = some (.slice e)) (he : P.underlying e = some (.int .i64)) (hc : P.cellsOf e = 1) (hb : P.bytesOf e = 8) (h : Wts P σ (t :: ts) l) :
    ∃ a r L, l = a :: r ∧ Wts P σ ts r ∧ RdS 1 σ a (ic L) L.length ∧ L.length ≤ 2 ^ 44 ∧ ∀ x ∈ L, -9223372036854775808 ≤ x ∧ x ≤ 9223372036854775807 := by
  obtain ⟨a, r, rfl, hs, h⟩ := h.slice hu
  rcases h with rfl | ⟨b, n, l, rfl, hg, hn, hl, hw⟩
  · exact ⟨_, r, [], rfl, hs, .inl ⟨rfl, rfl, rfl⟩, by simp, fun x h => by simp at h⟩
  · rw [hc] at hl hw
    obtain ⟨L, h1, h2, h3⟩ := slice_decode (enc := fun n : Int => [AV.int .i64 n]) (good := fun x => -9223372036854775808 ≤ x ∧ x ≤ 9223372036854775807) (fun c hc => wt_int he hc) hl hw
    have h4 : l = ic L := by rw [h2]; unfold ic; rw [List.map_eq_flatMap]
    exact ⟨_, r, L, rfl, hs, .inr ⟨b, _, by rw [h1], ⟨_, hg, by rw [← h4]; rfl⟩, by rw [ic_len, Nat.mul_one]⟩, by rw [hb, reach_eq] at hn; omega, h3⟩
end
end Go.Vit
end

section
namespace Go.Vit
def fc (L : List Int) : Nat → Nat
  | 0 => 0
  | n + 1 => (fc L n + cN L n) * 2
def cd (L : List Int) (i : Nat) : Nat := if 0 < L.getD i 0 then fc L (L.getD i 0).toNat + cN (L.take i) (L.getD i 0).toNat else 0
def codes (L : List Int) : List Int := arr (fun i => (cd L i : Nat)) L.length
theorem codes_len (L : List Int) : (codes L).length = L.length := arr_len _ _
theorem getD_of {L : List Int} {i : Nat} (h : i < L.length) : L.getD i 0 = L[i] := by simp [List.getD, List.getElem?_eq_getElem h]
end Go.Vit
end

section
namespace Go.Vit
section
variable {α : Type} (key : α → Int)
def Stb (l l' : List α) : Prop := l'.length = l.length ∧ ∀ v : Int, l'.filter (fun x => decide (key x = v)) = l.filter (fun x => decide (key x = v))
def Srt (l : List α) : Prop := l.Pairwise fun x y => key x ≤ key y
variable {key}
theorem Stb.refl (l : List α) : Stb key l l := ⟨rfl, fun _ => rfl⟩
theorem Stb.trans {a b c : List α} (h : Stb key a b) (g : Stb key b c) : Stb key a c := ⟨g.1.trans h.1, fun v => (g.2 v).trans (h.2 v)⟩
theorem Stb.append {a a' b b' : List α} (h : Stb key a a') (g : Stb key b b') : Stb key (a ++ b) (a' ++ b') :=
  ⟨by rw [List.length_append, List.length_append, h.1, g.1], fun v => by rw [List.filter_append, List.filter_append, h.2 v, g.2 v]⟩
theorem Stb.mem {a b : List α} (h : Stb key a b) (x : α) : x ∈ b ↔ x ∈ a := by
  have e := h.2 (key x)
  have h1 : x ∈ b.filter (fun y => decide (key y = key x)) ↔ x ∈ b := by rw [List.mem_filter]; simp
  have h2 : x ∈ a.filter (fun y => decide (key y = key x)) ↔ x ∈ a := by rw [List.mem_filter]; simp
  rw [← h1, ← h2, e]
theorem Stb.swap {u v : List α} (h : ∀ x ∈ u, ∀ y ∈ v, key y < key x) : Stb key (u ++ v) (v ++ u) := by
  refine ⟨by rw [List.length_append, List.length_append, Nat.add_comm], fun k => ?_⟩
  rw [List.filter_append, List.filter_append]
  by_cases hu : u.filter (fun x => decide (key x = k)) = []
  · rw [hu]; simp
  · by_cases hv : v.filter (fun x => decide (key x = k)) = []
    · rw [hv]; simp
    · obtain ⟨x, hx⟩ := List.exists_mem_of_ne_nil _ hu
      obtain ⟨y, hy⟩ := List.exists_mem_of_ne_nil _ hv
      rw [List.mem_filter] at hx hy
      have h1 := of_decide_eq_true hx.2
      have h2 := of_decide_eq_true hy.2
      have := h x hx.1 y hy.1
      omega
theorem Srt.append {a b : List α} (ha : Srt key a) (hb : Srt key b) (h : ∀ x ∈ a, ∀ y ∈ b, key x ≤ key y) : Srt key (a ++ b) := List.pairwise_append.2 ⟨ha, hb, h⟩
theorem Srt.left {a b : List α} (h : Srt key (a ++ b)) : Srt key a := (List.pairwise_append.1 h).1
theorem Srt.right {a b : List α} (h : Srt key (a ++ b)) : Srt key b := (List.pairwise_append.1 h).2.1
theorem Srt.rel {a b : List α} (h : Srt key (a ++ b)) : ∀ x ∈ a, ∀ y ∈ b, key x ≤ key y := (List.pairwise_append.1 h).2.2
theorem merge_halves {A1 A2 B1 B2 L R : List α} (hA : Srt key (A1 ++ A2)) (hB : Srt key (B1 ++ B2)) (h1 : ∀ x ∈ A1, ∀ y ∈ B2, key x ≤ key y) (h2 : ∀ x ∈ A2, ∀ y ∈ B1, key y < key x)
    (sL : Stb key (A1 ++ B1) L) (oL : Srt key L) (sR : Stb key (A2 ++ B2) R) (oR : Srt key R) : Srt key (L ++ R) ∧ Stb key ((A1 ++ A2) ++ (B1 ++ B2)) (L ++ R) := by
  refine ⟨oL.append oR fun x hx y hy => ?_, ?_⟩
  · rw [sL.mem, List.mem_append] at hx
    rw [sR.mem, List.mem_append] at hy
    rcases hx with hx | hx <;> rcases hy with hy | hy
    · exact hA.rel x hx y hy
    · exact h1 x hx y hy
    · exact Int.le_of_lt (h2 y hy x hx)
    · exact hB.rel x hx y hy
  · have s : Stb key (A1 ++ (A2 ++ B1) ++ B2) (A1 ++ (B1 ++ A2) ++ B2) := ((Stb.refl A1).append (Stb.swap h2)).append (Stb.refl B2)
    have t := sL.append sR
    rw [show A1 ++ A2 ++ (B1 ++ B2) = A1 ++ (A2 ++ B1) ++ B2 from by simp]
    rw [show A1 ++ B1 ++ (A2 ++ B2) = A1 ++ (B1 ++ A2) ++ B2 from by simp] at t
    exact s.trans t
theorem Srt.lt_succ {l : List α} (h : Srt key l) (n : Int) : l.filter (fun x => decide (key x < n + 1)) = l.filter (fun x => decide (key x < n)) ++ l.filter (fun x => decide (key x = n)) := by
  induction l with
  | nil => rfl
  | cons x l ih =>
    have hx : ∀ y ∈ l, key x ≤ key y := (List.pairwise_cons.1 h).1
    have ih := ih (List.pairwise_cons.1 h).2
    rcases Int.lt_trichotomy (key x) n with hlt | heq | hgt
    · rw [List.filter_cons_of_pos (by simp; omega), List.filter_cons_of_pos (by simp; omega), List.filter_cons_of_neg (by simp; omega), ih]; rfl
    · have e : (x :: l).filter (fun x => decide (key x < n)) = [] := by
        rw [List.filter_eq_nil_iff]
        intro y hy
        rcases List.mem_cons.1 hy with rfl | hy
        · simp; omega
        · have := hx y hy; simp; omega
      have e' : l.filter (fun x => decide (key x < n)) = [] := by
        rw [List.filter_eq_nil_iff]
        intro y hy
        have := hx y hy; simp; omega
      rw [e, List.filter_cons_of_pos (by simp; omega), List.filter_cons_of_pos (by simp; omega), ih, e']; rfl
    · have e1 : ∀ p : α → Bool, (∀ y, p y = true → key y ≤ n) → (x :: l).filter p = [] := by
        intro p hp
        rw [List.filter_eq_nil_iff]
        intro y hy h'
        have h2 := hp y h'
        rcases List.mem_cons.1 hy with rfl | hy
        · omega
        · have := hx y hy; omega
      rw [e1 _ fun y h => by have := of_decide_eq_true h; omega, e1 _ fun y h => by have := of_decide_eq_true h; omega, e1 _ fun y h => by have := of_decide_eq_true h; omega]; rfl
theorem Srt.at {l : List α} (h : Srt key l) {n : Int} {k : Nat} {x : α} (hk : (l.filter (fun x => decide (key x = n)))[k]? = some x) : l[(l.filter (fun x => decide (key x < n))).length + k]? = some x := by
  have e : l = l.filter (fun x => decide (key x < n + 1)) ++ l.filter (fun x => !decide (key x < n + 1)) := by
    clear hk
    induction l with
    | nil => rfl
    | cons y l ih =>
      have hx : ∀ z ∈ l, key y ≤ key z := (List.pairwise_cons.1 h).1
      have ih := ih (List.pairwise_cons.1 h).2
      by_cases hy : key y < n + 1
      · rw [List.filter_cons_of_pos (by simp; omega), List.filter_cons_of_neg (by simp; omega), List.cons_append, ← ih]
      · have e' : l.filter (fun x => decide (key x < n + 1)) = [] := by
          rw [List.filter_eq_nil_iff]
          intro z hz
          have := hx z hz; simp; omega
        rw [e', List.nil_append] at ih
        rw [List.filter_cons_of_neg (by simp; omega), List.filter_cons_of_pos (by simp; omega), e', List.nil_append, ← ih]
  rw [h.lt_succ] at e
  have hlt := (List.getElem?_eq_some_iff.1 hk).1
  generalize l.filter (fun x => decide (key x < n)) = a at e ⊢
  generalize l.filter (fun x => decide (key x = n)) = b at e hk hlt
  generalize l.filter (fun x => !decide (key x < n + 1)) = c at e
  rw [e]
  rw [List.append_assoc, List.getElem?_append_right (Nat.le_add_right _ _), Nat.add_sub_cancel_left, List.getElem?_append_left hlt]
  exact hk
/-! ### Exchanging -/
theorem mid_get {L R : List α} {x : α} {n : Nat} (h : n = L.length) : (L ++ x :: R)[n]? = some x := by subst h; simp
theorem swap2 {A B C : List α} {x y : α} {i j : Nat} (hi : i = A.length) (hj : j = i + 1 + B.length) : ((A ++ x :: (B ++ y :: C)).set i y).set j x = A ++ y :: (B ++ x :: C) := by
  subst hi
  rw [List.set_append_right _ _ (Nat.le_refl _), Nat.sub_self, List.set_cons_zero, List.set_append_right _ _ (by omega), show j - A.length = B.length + 1 from by omega, List.set_cons_succ, List.set_append_right _ _ (Nat.le_refl _), Nat.sub_self, List.set_cons_zero]
theorem swap2' {A B C : List α} {x y : α} {i j : Nat} (hi : i = A.length) (hj : j = i + 1 + B.length) : ((A ++ x :: (B ++ y :: C)).set j x).set i y = A ++ y :: (B ++ x :: C) := by
  rw [List.set_comm _ _ (by omega), swap2 hi hj]
theorem split_at (l : List α) {k : Nat} (h : k ≤ l.length) : ∃ a b, l = a ++ b ∧ a.length = k := ⟨l.take k, l.drop k, (List.take_append_drop k l).symm, by rw [List.length_take]; omega⟩
theorem split_one (l : List α) (h : l ≠ []) : ∃ x r, l = x :: r := by cases l with
  | nil => exact absurd rfl h
  | cons x r => exact ⟨x, r, rfl⟩
theorem split_last (l : List α) (h : l ≠ []) : ∃ r x, l = r ++ [x] := ⟨l.dropLast, l.getLast h, (List.dropLast_concat_getLast h).symm⟩
end
end Go.Vit
end

section
namespace Go.Vit
def syms (L : List Int) (i : Nat) : List Int := ((List.range i).filter fun j => decide (0 < L.getD j 0)).map fun j => ((j : Nat) : Int)
def lkey (L : List Int) (x : Int) : Int := L.getD x.toNat 0
end Go.Vit
end

section
namespace Go.Vit
def fnd (L : List Int) (n c : Nat) : Option Nat := (List.range L.length).find? fun i => decide (L.getD i 0 = n ∧ cd L i = c)
def dec (L : List Int) (s : ByteArray) : Nat → Nat → Nat → Nat → Int × Int × Nat
  | 0, _, _, at' => (0, 12, at')
  | k + 1, n, c, at' => if 8 * s.size ≤ at' then (0, 3, at') else match fnd L n (2 * c + bitAt s at') with
    | some i => ((i : Nat), 0, at' + 1)
    | none => dec L s k (n + 1) (2 * c + bitAt s at') (at' + 1)
end Go.Vit
end

section
namespace Go.Vit
end Go.Vit
end

section
namespace Go.Vit
def RdO (k : Nat) (σ : Mem) (v : AV) (cs : List AV) (n : Nat) : Prop :=
  (v = .nils ∧ n = 0 ∧ cs = []) ∨ ∃ b z c, v = .slice b z n c ∧ cs.length = n * k ∧ ∃ q cells, σ.get b = some q ∧ q.cellsR = some cells ∧ (cells.drop z).take (n * k) = cs ∧ z + n * k ≤ cells.length
theorem RdO.mk {k n b : Nat} {c : Cap} {σ : Mem} {v : AV} {cs : List AV} (hv : v = .slice b 0 n c) (hg : ∃ q, σ.get b = some q ∧ q.cellsR = some cs) (hl : cs.length = n * k) : RdO k σ v cs n := by
  obtain ⟨q, h1, h2⟩ := hg
  exact .inr ⟨b, 0, c, hv, hl, q, cs, h1, h2, by rw [List.drop_zero, ← hl, List.take_length], by omega⟩
theorem OwnS.rdO {k n : Nat} {σ : Mem} {v : AV} {cs : List AV} (h : OwnS k σ v cs n) : RdO k σ v cs n := by
  rcases h with h | ⟨b, h1, h2, h3⟩
  · exact .inl h
  · exact .mk h1 ⟨_, h2, rfl⟩ h3
theorem RdS.o {k n : Nat} {σ : Mem} {v : AV} {cs : List AV} (h : RdS k σ v cs n) : RdO k σ v cs n := by
  rcases h with h | ⟨b, c, h1, h2, h3⟩
  · exact .inl h
  · exact .mk h1 h2 h3
theorem RdO.len {k n : Nat} {σ : Mem} {v : AV} {cs : List AV} (h : RdO k σ v cs n) {K : Int → Prop} (hk : K (n : Nat)) : slenW v K := by
  rcases h with ⟨rfl, rfl, rfl⟩ | ⟨b, z, c, rfl, _⟩ <;> exact hk
theorem RdO.keep {k n : Nat} {σ σ' : Mem} {v : AV} {cs : List AV} (h : RdO k σ v cs n) (hb : ∀ b ∈ blkOf v, σ'.get b = σ.get b) : RdO k σ' v cs n := by
  rcases h with h | ⟨b, z, c, rfl, h3, q, cells, h1, h2⟩
  · exact .inl h
  · exact .inr ⟨b, z, c, rfl, h3, q, cells, (hb b (by simp [blkOf])).trans h1, h2⟩
theorem RdO.lt {k n : Nat} {σ : Mem} {v : AV} {cs : List AV} (h : RdO k σ v cs n) (live : σ.Live) : ∀ b ∈ blkOf v, b < σ.next := by
  rcases h with ⟨rfl, _⟩ | ⟨b, z, c, rfl, h3, q, cells, h1, _⟩
  · intro b hb; simp [blkOf] at hb
  · intro c hc; simp [blkOf] at hc; subst hc; exact live.lt h1
theorem src_rdO {σ : Mem} {k n : Nat} {v : AV} {cs : List AV} (h : RdO k σ v cs n) (K : Nat → List AV → Prop) (hk : K n cs) : srcW σ k v K := by
  rcases h with ⟨rfl, rfl, rfl⟩ | ⟨b, z, c, rfl, h3, q, cells, h1, h2, h4, h5⟩
  · exact hk
  · refine opt (a := σ.cells b z (n * k)) (v := cs) ?_ hk
    unfold Mem.cells
    rw [h1, Option.bind_some, h2, Option.bind_some, if_pos h5, h4]
theorem ap_freshO {k bytes id nb n : Nat} {σ : Mem} {x : AV} {cs : List AV} {K : AV → Mem → Prop} (hb : σ.get nb = some (.rw [])) (hx : RdO k σ x cs n) (h1 : cs.all AV.one = true) (hr : n * bytes ≤ 140737488355328 ∧ n ≤ 9223372036854775806)
    (h0 : n = 0 → K (.slice nb 0 0 (.ex 0)) σ) (hk : n ≠ 0 → K (.slice id 0 n (.op k)) (σ.put id (some (.rw cs)))) : apW k bytes id σ (.slice nb 0 0 (.ex 0)) x K := by
  unfold apW
  refine src_rdO hx _ ⟨h1, h0, fun hn => ⟨fun h => absurd h (by omega), fun _ => ⟨by rw [Nat.zero_add]; exact hr, ?_⟩⟩⟩
  refine opt (v := []) ?_ ⟨rfl, ?_⟩
  · rw [Mem.cells_of hb]; simp
  · rw [Nat.zero_add]; exact hk hn
theorem RdO.iat {σ : Mem} {v : AV} {L : List Int} {n : Nat} (h : RdO 1 σ v (ic L) n) {i : Nat} {x : Int} (hx : L[i]? = some x) (hn : i < n) (_ : i < L.length) : ∃ b z c, v = .slice b z n c ∧ ∀ {K : AV → Prop} (m : Nat), K (.int .i64 x) → ldW (σ.bump m) (.ptr b (z + i)) K := by
  rcases h with ⟨_, rfl, _⟩ | ⟨b, z, c, rfl, h3, q, cells, h1, h2, h4, h5⟩
  · omega
  · refine ⟨b, z, c, rfl, fun m hk => ldq (σ := σ.bump m) h1 ?_ hk⟩
    rw [h2]
    show cells[z + i]? = _
    have e : (ic L)[i]? = some (.int .i64 x) := by
      have hi := (List.getElem?_eq_some_iff.1 hx).1
      rw [ic_get hi]
      rw [List.getElem?_eq_getElem hi] at hx
      injection hx with hx
      rw [hx]
    rw [← h4, List.getElem?_take_of_lt (by omega), List.getElem?_drop] at e
    exact e
theorem RdO.at {σ : Mem} {v : AV} {L : List Int} (h : RdO 1 σ v (ic L) L.length) {i : Nat} (hi : i < L.length) : ∃ b z c, v = .slice b z L.length c ∧ ∀ {K : AV → Prop} (n : Nat), K (.int .i64 L[i]) → ldW (σ.bump n) (.ptr b (z + i)) K :=
  h.iat (List.getElem?_eq_getElem hi) hi hi
theorem RdO.take {σ : Mem} {b n k : Nat} {c c' : Cap} {L : List Int} (h : RdO 1 σ (.slice b 0 n c) (ic L) n) (hk : k ≤ n) : RdO 1 σ (.slice b 0 k c') (ic (L.take k)) k := by
  rcases h with ⟨h, _⟩ | ⟨b', z, c', e, h3, q, cells, h1, h2, h4, h5⟩
  · exact absurd h (by simp)
  · injection e with e1 e2
    subst e1 e2
    rw [List.drop_zero] at h4
    have hl : (ic (L.take k)) = (ic L).take k := by unfold ic; rw [List.map_take]
    refine .inr ⟨b, 0, _, rfl, ?_, q, cells, h1, h2, ?_, by omega⟩
    · rw [hl, List.length_take, h3]; omega
    · rw [hl, ← h4, List.drop_zero, List.take_take, Nat.min_eq_left (by omega)]
      congr 1; omega
theorem RdO.drop {σ : Mem} {b n k : Nat} {c c' : Cap} {L : List Int} (h : RdO 1 σ (.slice b 0 n c) (ic L) n) (hk : k ≤ n) : RdO 1 σ (.slice b k (n - k) c') (ic (L.drop k)) (n - k) := by
  rcases h with ⟨h, _⟩ | ⟨b', z, c', e, h3, q, cells, h1, h2, h4, h5⟩
  · exact absurd h (by simp)
  · injection e with e1 e2
    subst e1 e2
    rw [List.drop_zero] at h4
    have hl : (ic (L.drop k)) = (ic L).drop k := by unfold ic; rw [List.map_drop]
    refine .inr ⟨b, k, _, rfl, ?_, q, cells, h1, h2, ?_, by omega⟩
    · rw [hl, List.length_drop, h3]; omega
    · rw [hl, ← h4, List.drop_take]
      congr 1; omega
end Go.Vit
end

section
namespace Go.Vit
variable {P : Program} {σ : Mem}
end Go.Vit
end

section
namespace Go.Vit
inductive Pm where
  | coin (n : Int) (s : Nat)
  | pair (a b : Pm)
def Pm.wt : Pm → Int
  | .coin n _ => n
  | .pair a b => a.wt + b.wt
def Pm.cnt (i : Nat) : Pm → Nat
  | .coin _ s => if s = i then 1 else 0
  | .pair a b => a.cnt i + b.cnt i
def Pm.sz : Pm → Nat
  | .coin _ _ => 1
  | .pair a b => a.sz + b.sz
def Pm.syb (m : Nat) : Pm → Prop
  | .coin _ s => s < m
  | .pair a b => a.syb m ∧ b.syb m
def pks : List Pm → List Pm
  | a :: b :: r => .pair a b :: pks r
  | _ => []
theorem pks_len : ∀ l : List Pm, (pks l).length = l.length / 2
  | [] => rfl
  | [_] => by simp [pks]
  | a :: b :: r => by rw [pks, List.length_cons, pks_len r, List.length_cons, List.length_cons]; omega
theorem pks_all {p : Pm → Prop} {q : Pm → Prop} (h : ∀ a b, p a → p b → q (.pair a b)) : ∀ {l : List Pm}, (∀ x ∈ l, p x) → ∀ x ∈ pks l, q x
  | [], _, x, hx => by simp [pks] at hx
  | [_], _, x, hx => by simp [pks] at hx
  | a :: b :: r, hl, x, hx => by
    rw [pks] at hx
    rcases List.mem_cons.1 hx with rfl | hx
    · exact h a b (hl a (by simp)) (hl b (by simp))
    · exact pks_all h (l := r) (fun y hy => hl y (by simp [hy])) x hx
/-! ### What is sorted -/
section
variable {α : Type} {key : α → Int}
theorem ss_unique : ∀ {C C' : List α}, Stb key C C' → Srt key C → Srt key C' → C' = C
  | [], C', h, _, _ => List.length_eq_zero_iff.1 h.1
  | x :: C, [], h, _, _ => by have := h.1; simp at this
  | x :: C, y :: C', h, h1, h2 => by
    have hx : x ∈ y :: C' := (h.mem x).2 (by simp)
    have hy : y ∈ x :: C := (h.mem y).1 (by simp)
    have hxy : key x = key y := by
      have a : key y ≤ key x := by
        rcases List.mem_cons.1 hx with rfl | hx
        · exact Int.le_refl _
        · exact (List.pairwise_cons.1 h2).1 x hx
      have b : key x ≤ key y := by
        rcases List.mem_cons.1 hy with rfl | hy
        · exact Int.le_refl _
        · exact (List.pairwise_cons.1 h1).1 y hy
      omega
    have he := h.2 (key x)
    rw [List.filter_cons_of_pos (by simpa using hxy.symm), List.filter_cons_of_pos (by simp)] at he
    injection he with e1 e2
    subst e1
    have ht : Stb key C C' := by
      refine ⟨by have := h.1; simpa using this, fun v => ?_⟩
      have hv := h.2 v
      by_cases hk : key y = v
      · rw [List.filter_cons_of_pos (by simp [hk]), List.filter_cons_of_pos (by simp [hk])] at hv
        injection hv
      · rw [List.filter_cons_of_neg (by simp [hk]), List.filter_cons_of_neg (by simp [hk])] at hv
        exact hv
    rw [ss_unique ht (List.pairwise_cons.1 h1).2 (List.pairwise_cons.1 h2).2]
theorem ss_eq {X C C' : List α} (h1 : Stb key X C) (s1 : Srt key C) (h2 : Stb key X C') (s2 : Srt key C') : C' = C :=
  ss_unique ⟨h2.1.trans h1.1.symm, fun v => (h2.2 v).trans (h1.2 v).symm⟩ s1 s2
end
section
variable {α β : Type} {key : α → Int} {key' : β → Int} {f : α → β}
theorem filter_map_key {l : List α} (h : ∀ x ∈ l, key' (f x) = key x) (v : Int) : (l.map f).filter (fun x => decide (key' x = v)) = (l.filter fun x => decide (key x = v)).map f := by
  induction l with
  | nil => rfl
  | cons a l ih =>
    have ha := h a (by simp)
    have ih := ih fun x hx => h x (by simp [hx])
    rw [List.map_cons]
    by_cases hk : key a = v
    · rw [List.filter_cons_of_pos (by simp [ha, hk]), List.filter_cons_of_pos (by simp [hk]), List.map_cons, ih]
    · rw [List.filter_cons_of_neg (by simp [ha, hk]), List.filter_cons_of_neg (by simp [hk]), ih]
theorem Stb.map {X C : List α} (h : Stb key X C) (hk : ∀ x ∈ X, key' (f x) = key x) : Stb key' (X.map f) (C.map f) := by
  refine ⟨by rw [List.length_map, List.length_map, h.1], fun v => ?_⟩
  rw [filter_map_key hk, filter_map_key fun x hx => hk x ((h.mem x).1 hx), h.2 v]
theorem Srt.map {C : List α} (h : Srt key C) (hk : ∀ x ∈ C, key' (f x) = key x) : Srt key' (C.map f) := by
  unfold Srt at h ⊢
  rw [List.pairwise_map]
  exact h.imp_of_mem fun {a b} ha hb hab => by rw [hk a ha, hk b hb]; exact hab
end
def insA (x : Pm) : List Pm → List Pm
  | [] => [x]
  | y :: l => if y.wt ≤ x.wt then y :: insA x l else x :: y :: l
theorem insA_mem {x y : Pm} : ∀ {l : List Pm}, y ∈ insA x l ↔ y = x ∨ y ∈ l
  | [] => by simp [insA]
  | z :: l => by
    unfold insA
    split
    · rw [List.mem_cons, insA_mem (l := l), List.mem_cons]
      constructor
      · rintro (h | h | h)
        · exact .inr (.inl h)
        · exact .inl h
        · exact .inr (.inr h)
      · rintro (h | h | h)
        · exact .inr (.inl h)
        · exact .inl h
        · exact .inr (.inr h)
    · rw [List.mem_cons]
theorem insA_ss (x : Pm) : ∀ {l : List Pm}, Srt Pm.wt l → Stb Pm.wt (l ++ [x]) (insA x l) ∧ Srt Pm.wt (insA x l)
  | [], _ => ⟨Stb.refl _, List.pairwise_singleton _ _⟩
  | y :: l, h => by
    have hy := (List.pairwise_cons.1 h).1
    obtain ⟨h1, h2⟩ := insA_ss x (List.pairwise_cons.1 h).2
    unfold insA
    split
    · rename_i hle
      refine ⟨(Stb.refl [y]).append h1, List.pairwise_cons.2 ⟨fun z hz => ?_, h2⟩⟩
      rcases insA_mem.1 hz with rfl | hz
      · exact hle
      · exact hy z hz
    · rename_i hlt
      have t : Stb Pm.wt ((y :: l) ++ [x]) ([x] ++ (y :: l)) := Stb.swap fun a ha b hb => by
        rw [List.mem_singleton] at hb
        subst hb
        rcases List.mem_cons.1 ha with rfl | ha
        · omega
        · have := hy a ha; omega
      refine ⟨t, List.pairwise_cons.2 ⟨fun z hz => ?_, h⟩⟩
      rcases List.mem_cons.1 hz with rfl | hz
      · omega
      · have := hy z hz; omega
def isort (X : List Pm) : List Pm := X.foldl (fun acc x => insA x acc) []
theorem isort_ss (X : List Pm) : Stb Pm.wt X (isort X) ∧ Srt Pm.wt (isort X) := by
  have : ∀ (Y acc Z : List Pm), Stb Pm.wt Z acc → Srt Pm.wt acc → Stb Pm.wt (Z ++ Y) (Y.foldl (fun acc x => insA x acc) acc) ∧ Srt Pm.wt (Y.foldl (fun acc x => insA x acc) acc) := by
    intro Y
    induction Y with
    | nil => intro acc Z h1 h2; rw [List.append_nil]; exact ⟨h1, h2⟩
    | cons y Y ih =>
      intro acc Z h1 h2
      obtain ⟨h3, h4⟩ := insA_ss y h2
      have := ih (insA y acc) (Z ++ [y]) ((h1.append (Stb.refl [y])).trans h3) h4
      rw [List.append_assoc, List.singleton_append] at this
      exact this
  exact this X [] [] (Stb.refl _) List.Pairwise.nil
theorem isort_eq {X C : List Pm} (h : Stb Pm.wt X C) (s : Srt Pm.wt C) : C = isort X := ss_eq (isort_ss X).1 (isort_ss X).2 h s
theorem isort_len (X : List Pm) : (isort X).length = X.length := (isort_ss X).1.1
theorem isort_mem {X : List Pm} {x : Pm} : x ∈ isort X ↔ x ∈ X := (isort_ss X).1.mem x
/-! ### Rows -/
def rows (C : List Pm) : Nat → List Pm
  | 0 => C
  | k + 1 => isort (C ++ pks (rows C k))
theorem rows_len (C : List Pm) : ∀ (k c : Nat), C.length ≤ c * 2 ^ k → 2 * C.length ≤ (rows C k).length + c
  | 0, c, h => by rw [rows]; omega
  | k + 1, c, h => by
    have ih := rows_len C k (2 * c) (by rw [Nat.pow_succ] at h; rw [Nat.mul_comm 2 c, Nat.mul_assoc, Nat.mul_comm 2]; exact h)
    rw [rows, isort_len, List.length_append, pks_len]
    omega
theorem rows_le (C : List Pm) : ∀ k, (rows C k).length ≤ 2 * C.length
  | 0 => by rw [rows]; omega
  | k + 1 => by
    have := rows_le C k
    rw [rows, isort_len, List.length_append, pks_len]
    omega
theorem rows_all {C : List Pm} {p : Nat → Pm → Prop} (h0 : ∀ x ∈ C, ∀ k, p k x) (hp : ∀ k a b, p k a → p k b → p (k + 1) (.pair a b)) : ∀ k, ∀ x ∈ rows C k, p k x
  | 0, x, hx => h0 x hx 0
  | k + 1, x, hx => by
    rw [rows, isort_mem, List.mem_append] at hx
    rcases hx with hx | hx
    · exact h0 x hx _
    · exact pks_all (p := p k) (q := p (k + 1)) (hp k) (rows_all h0 hp k) x hx
def coinsTo (L : List Int) (i : Nat) : List Pm := ((List.range i).filter fun j => decide (0 < L.getD j 0)).map fun j => Pm.coin (L.getD j 0) j
theorem coinsTo_succ (L : List Int) (i : Nat) : coinsTo L (i + 1) = coinsTo L i ++ if 0 < L.getD i 0 then [Pm.coin (L.getD i 0) i] else [] := by
  unfold coinsTo
  rw [List.range_succ, List.filter_append, List.map_append]
  by_cases h : 0 < L.getD i 0
  · rw [if_pos h, List.filter_cons_of_pos (by simpa using h)]; rfl
  · rw [if_neg h, List.filter_cons_of_neg (by simpa using h)]; rfl
theorem coinsTo_len (L : List Int) (i : Nat) : (coinsTo L i).length ≤ i := by
  unfold coinsTo
  rw [List.length_map]
  exact Nat.le_trans (List.length_filter_le _ _) (by rw [List.length_range]; omega)
theorem coinsTo_mem {L : List Int} {i : Nat} {x : Pm} (h : x ∈ coinsTo L i) : ∃ j, j < i ∧ 0 < L.getD j 0 ∧ x = .coin (L.getD j 0) j := by
  unfold coinsTo at h
  rw [List.mem_map] at h
  obtain ⟨j, hj, rfl⟩ := h
  rw [List.mem_filter, List.mem_range] at hj
  exact ⟨j, hj.1, by simpa using hj.2, rfl⟩
def coinsOf (L : List Int) : List Pm := coinsTo L L.length
def sumC (i : Nat) (l : List Pm) : Nat := (l.map (Pm.cnt i)).sum
theorem sumC_append (i : Nat) (l m : List Pm) : sumC i (l ++ m) = sumC i l + sumC i m := by unfold sumC; rw [List.map_append, List.sum_append]
theorem sumC_one (i : Nat) (x : Pm) : sumC i [x] = x.cnt i := by simp [sumC]
def sumZ (l : List Pm) : Nat := (l.map Pm.sz).sum
theorem cnt_le (i : Nat) : ∀ x : Pm, x.cnt i ≤ x.sz
  | .coin _ s => by unfold Pm.cnt Pm.sz; split <;> omega
  | .pair a b => by unfold Pm.cnt Pm.sz; have := cnt_le i a; have := cnt_le i b; omega
def addc (A : List Int) (l : List Pm) : List Int := arr (fun i => A.getD i 0 + sumC i l) A.length
def limit (most : Nat) (L : List Int) : List Int :=
  if (coinsOf L).length = 1 then arr (fun i => sumC i (coinsOf L)) L.length
  else arr (fun i => sumC i ((rows (isort (coinsOf L)) (most - 1)).take (2 * (coinsOf L).length - 2))) L.length
def badL (most : Int) (L : List Int) : Prop := most < 1 ∨ 15 < most ∨ 288 < L.length ∨ (∃ n ∈ L, n < 0 ∨ 1000000000 < n) ∨ 2 ^ most.toNat < (coinsOf L).length
end Go.Vit
end

section
namespace Go.Vit
theorem perm_sum {α : Type} (f : α → Nat) {l l' : List α} (h : l.Perm l') : (l.map f).sum = (l'.map f).sum := by
  induction h with
  | nil => rfl
  | cons x _ ih => simp only [List.map_cons, List.sum_cons, ih]
  | swap x y l => simp only [List.map_cons, List.sum_cons]; omega
  | trans _ _ ih1 ih2 => exact ih1.trans ih2
theorem insA_perm (x : Pm) : ∀ l : List Pm, (insA x l).Perm (x :: l)
  | [] => .refl _
  | y :: l => by
    unfold insA
    split
    · exact ((insA_perm x l).cons y).trans (.swap x y l)
    · exact .refl _
theorem foldl_perm : ∀ (X acc : List Pm), (X.foldl (fun acc x => insA x acc) acc).Perm (X ++ acc)
  | [], acc => .refl _
  | x :: X, acc => by
    rw [List.foldl_cons]
    refine (foldl_perm X _).trans ?_
    refine ((insA_perm x acc).append_left X).trans ?_
    exact List.perm_middle
theorem isort_perm (X : List Pm) : (isort X).Perm X := by
  have := foldl_perm X []
  rw [List.append_nil] at this
  exact this
/-! ### Rows are merged -/
def mrg : List Pm → List Pm → List Pm
  | [], P => P
  | C, [] => C
  | a :: C, b :: P => if a.wt ≤ b.wt then a :: mrg C (b :: P) else b :: mrg (a :: C) P
termination_by C P => C.length + P.length
theorem mrg_nil (P : List Pm) : mrg [] P = P := by unfold mrg; rfl
theorem mrg_nil' (C : List Pm) : mrg C [] = C := by cases C <;> (unfold mrg; rfl)
theorem mrg_cons (a b : Pm) (C P : List Pm) : mrg (a :: C) (b :: P) = if a.wt ≤ b.wt then a :: mrg C (b :: P) else b :: mrg (a :: C) P := by
  rw [mrg]
theorem mrg_ss : ∀ (N : Nat) (C P : List Pm), C.length + P.length ≤ N → Srt Pm.wt C → Srt Pm.wt P → Stb Pm.wt (C ++ P) (mrg C P) ∧ Srt Pm.wt (mrg C P)
  | _, [], P, _, _, h2 => by rw [mrg_nil]; exact ⟨Stb.refl _, h2⟩
  | _, a :: C, [], _, h1, _ => by rw [mrg_nil', List.append_nil]; exact ⟨Stb.refl _, h1⟩
  | 0, a :: C, b :: P, h, _, _ => by simp at h
  | N + 1, a :: C, b :: P, h, h1, h2 => by
    have ha := (List.pairwise_cons.1 h1).1
    have hb := (List.pairwise_cons.1 h2).1
    simp only [List.length_cons] at h
    rw [mrg_cons]
    split
    · rename_i hle
      obtain ⟨t, s⟩ := mrg_ss N C (b :: P) (by simp only [List.length_cons]; omega) (List.pairwise_cons.1 h1).2 h2
      refine ⟨(Stb.refl [a]).append t, List.pairwise_cons.2 ⟨fun z hz => ?_, s⟩⟩
      have hz := (t.mem z).1 hz
      rcases List.mem_append.1 hz with hz | hz
      · exact ha z hz
      · rcases List.mem_cons.1 hz with rfl | hz
        · exact hle
        · have := hb z hz; omega
    · rename_i hlt
      obtain ⟨t, s⟩ := mrg_ss N (a :: C) P (by simp only [List.length_cons]; omega) h1 (List.pairwise_cons.1 h2).2
      refine ⟨?_, List.pairwise_cons.2 ⟨fun z hz => ?_, s⟩⟩
      · have sw : Stb Pm.wt ((a :: C) ++ [b]) ([b] ++ (a :: C)) := Stb.swap fun u hu v hv => by
          rw [List.mem_singleton] at hv
          subst hv
          rcases List.mem_cons.1 hu with rfl | hu
          · omega
          · have := ha u hu; omega
        have e : (a :: C) ++ b :: P = ((a :: C) ++ [b]) ++ P := by simp
        rw [e]
        refine (sw.append (Stb.refl P)).trans ?_
        rw [List.append_assoc]
        exact (Stb.refl [b]).append t
      · have hz := (t.mem z).1 hz
        rcases List.mem_append.1 hz with hz | hz
        · rcases List.mem_cons.1 hz with rfl | hz
          · omega
          · have := ha z hz; omega
        · exact hb z hz
theorem mrg_eq {C P : List Pm} (h1 : Srt Pm.wt C) (h2 : Srt Pm.wt P) : mrg C P = isort (C ++ P) :=
  isort_eq (mrg_ss _ C P (Nat.le_refl _) h1 h2).1 (mrg_ss _ C P (Nat.le_refl _) h1 h2).2
theorem mrg_len {C P : List Pm} (h1 : Srt Pm.wt C) (h2 : Srt Pm.wt P) : (mrg C P).length = C.length + P.length := by
  rw [mrg_eq h1 h2, isort_len, List.length_append]
theorem mrg_take : ∀ (N : Nat) (C P : List Pm) (t : Nat), C.length + P.length ≤ N → t ≤ C.length + P.length → Srt Pm.wt C → Srt Pm.wt P →
    ∃ c p, c + p = t ∧ c ≤ C.length ∧ p ≤ P.length ∧ ((mrg C P).take t).Perm (C.take c ++ P.take p) ∧ (∀ x y, C[c]? = some x → p ≠ 0 → P[p - 1]? = some y → y.wt < x.wt)
  | _, [], P, t, _, ht, _, _ => ⟨0, t, by omega, Nat.le_refl _, by simpa using ht, by rw [mrg_nil]; exact .refl _, fun x y h => by simp at h⟩
  | _, a :: C, [], t, _, ht, _, _ => ⟨t, 0, by omega, by simpa using ht, Nat.le_refl _, by rw [mrg_nil', List.take_zero, List.append_nil], fun x y _ h => absurd rfl h⟩
  | 0, a :: C, b :: P, t, h, _, _, _ => by simp at h
  | N + 1, a :: C, b :: P, 0, _, _, _, _ => ⟨0, 0, rfl, Nat.zero_le _, Nat.zero_le _, by simp, fun x y _ h => absurd rfl h⟩
  | N + 1, a :: C, b :: P, t + 1, h, ht, h1, h2 => by
    simp only [List.length_cons] at h ht
    have ha := (List.pairwise_cons.1 h1).1
    have hb := (List.pairwise_cons.1 h2).1
    rw [mrg_cons]
    split
    · rename_i hle
      obtain ⟨c, p, e, hc, hp, hperm, htie⟩ := mrg_take N C (b :: P) t (by simp only [List.length_cons]; omega) (by simp only [List.length_cons]; omega) (List.pairwise_cons.1 h1).2 h2
      refine ⟨c + 1, p, by omega, by simp only [List.length_cons]; omega, hp, ?_, fun x y hx hp0 hy => htie x y (by simpa using hx) hp0 hy⟩
      rw [List.take_succ_cons, List.take_succ_cons, List.cons_append]
      exact hperm.cons a
    · rename_i hlt
      obtain ⟨c, p, e, hc, hp, hperm, htie⟩ := mrg_take N (a :: C) P t (by simp only [List.length_cons]; omega) (by simp only [List.length_cons]; omega) h1 (List.pairwise_cons.1 h2).2
      refine ⟨c, p + 1, by omega, hc, by simp only [List.length_cons]; omega, ?_, fun x y hx _ hy => ?_⟩
      · rw [List.take_succ_cons, List.take_succ_cons]
        exact (hperm.cons b).trans List.perm_middle.symm
      · rw [Nat.add_sub_cancel] at hy
        by_cases hp0 : p = 0
        · subst hp0
          simp only [List.getElem?_cons_zero, Option.some.injEq] at hy
          subst hy
          have hx := List.mem_of_getElem? hx
          rcases List.mem_cons.1 hx with rfl | hx
          · omega
          · have := ha x hx; omega
        · obtain ⟨q, rfl⟩ : ∃ q, p = q + 1 := ⟨p - 1, by omega⟩
          exact htie x y hx hp0 (by simpa using hy)
/-! ### Pairs of what is sorted are sorted -/
theorem pks_get : ∀ {l : List Pm} {i : Nat} {x : Pm}, (pks l)[i]? = some x → ∃ a b, l[2 * i]? = some a ∧ l[2 * i + 1]? = some b ∧ x = .pair a b
  | [], i, x, h => by simp [pks] at h
  | [_], i, x, h => by simp [pks] at h
  | a :: b :: r, 0, x, h => by
    simp [pks] at h
    exact ⟨a, b, rfl, rfl, h.symm⟩
  | a :: b :: r, i + 1, x, h => by
    rw [pks, List.getElem?_cons_succ] at h
    obtain ⟨u, v, h1, h2, h3⟩ := pks_get h
    refine ⟨u, v, ?_, ?_, h3⟩
    · rw [show 2 * (i + 1) = (2 * i + 1) + 1 from by omega, List.getElem?_cons_succ, List.getElem?_cons_succ]; exact h1
    · rw [show 2 * (i + 1) + 1 = ((2 * i + 1) + 1) + 1 from by omega, List.getElem?_cons_succ, List.getElem?_cons_succ]; exact h2
theorem srt_get {l : List Pm} (h : Srt Pm.wt l) {i j : Nat} {x y : Pm} (hij : i ≤ j) (hx : l[i]? = some x) (hy : l[j]? = some y) : x.wt ≤ y.wt := by
  obtain ⟨h1, rfl⟩ := List.getElem?_eq_some_iff.1 hx
  obtain ⟨h2, rfl⟩ := List.getElem?_eq_some_iff.1 hy
  by_cases e : i = j
  · subst e; exact Int.le_refl _
  · exact (List.pairwise_iff_getElem.1 h) i j h1 h2 (by omega)
theorem pks_srt {l : List Pm} (h : Srt Pm.wt l) : Srt Pm.wt (pks l) := by
  unfold Srt
  rw [List.pairwise_iff_getElem]
  intro i j h1 h2 hij
  obtain ⟨a, b, e1, e2, e3⟩ := pks_get (List.getElem?_eq_getElem h1)
  obtain ⟨a', b', e1', e2', e3'⟩ := pks_get (List.getElem?_eq_getElem h2)
  rw [e3, e3']
  have := srt_get h (by omega) e1 e1'
  have := srt_get h (by omega) e2 e2'
  show a.wt + b.wt ≤ a'.wt + b'.wt
  omega
theorem rows_srt {C : List Pm} (h : Srt Pm.wt C) : ∀ k, Srt Pm.wt (rows C k)
  | 0 => h
  | _ + 1 => (isort_ss _).2
theorem rows_mrg {C : List Pm} (h : Srt Pm.wt C) (k : Nat) : rows C (k + 1) = mrg C (pks (rows C k)) := (mrg_eq h (pks_srt (rows_srt h k))).symm
theorem pks_sum (f : Pm → Nat) (hf : ∀ a b, f (.pair a b) = f a + f b) : ∀ {l : List Pm} {p : Nat}, 2 * p ≤ l.length → ((pks l |>.take p).map f).sum = ((l.take (2 * p)).map f).sum
  | _, 0, _ => by simp
  | [], p + 1, h => by simp at h
  | [_], p + 1, h => by simp only [List.length_cons, List.length_nil] at h; omega
  | a :: b :: r, p + 1, h => by
    have ih := pks_sum f hf (l := r) (p := p) (by simp only [List.length_cons] at h; omega)
    rw [pks, List.take_succ_cons, show 2 * (p + 1) = 2 * p + 1 + 1 from by omega, List.take_succ_cons, List.take_succ_cons]
    simp only [List.map_cons, List.sum_cons, hf]; omega
end Go.Vit
end

section
namespace Go.Vit
def vl : List Nat → Nat
  | [] => 0
  | c :: cs => c * 2 ^ cs.length + vl cs
theorem vl_le {m : Nat} : ∀ {cs : List Nat}, (∀ c ∈ cs, c ≤ m) → vl cs + m ≤ m * 2 ^ cs.length
  | [], _ => by simp [vl]
  | c :: cs, h => by
    have ih := vl_le (cs := cs) fun x hx => h x (by simp [hx])
    have hc := Nat.mul_le_mul_right (2 ^ cs.length) (h c (by simp))
    rw [vl, List.length_cons, Nat.pow_succ, ← Nat.mul_assoc]
    generalize m * 2 ^ cs.length = z at *
    omega
theorem lev {C : List Pm} (h : Srt Pm.wt C) (h0 : ∀ x ∈ C, 0 < x.wt) : ∀ (k t : Nat), t ≤ (rows C k).length → ∃ cs : List Nat, cs.length = k + 1 ∧ (∀ i, sumC i ((rows C k).take t) = (cs.map fun c => sumC i (C.take c)).sum) ∧ (∀ c ∈ cs, c ≤ C.length) ∧ cs.Pairwise (fun a b => b ≤ a) ∧ vl cs = t * 2 ^ k ∧ (∀ x ∈ C.take (cs.headD 0), x ∈ (rows C k).take t)
  | 0, t, ht => ⟨[t], rfl, fun i => by simp [rows], fun c hc => by rw [List.mem_singleton] at hc; subst hc; exact ht, List.pairwise_singleton _ _, by simp [vl], fun x hx => hx⟩
  | k + 1, t, ht => by
    have hs := rows_srt h k
    have hP := pks_srt hs
    have hlen := mrg_len h hP
    rw [rows_mrg h k] at ht ⊢
    rw [hlen] at ht
    obtain ⟨c, p, e, hc, hp, hperm, htie⟩ := mrg_take _ C (pks (rows C k)) t (Nat.le_refl _) ht h hP
    rw [pks_len] at hp
    have h2p : 2 * p ≤ (rows C k).length := by omega
    obtain ⟨cs, l1, l2, l3, l4, l5, l6⟩ := lev h h0 k (2 * p) h2p
    have hpos : ∀ x ∈ rows C k, 0 < x.wt := rows_all (p := fun _ x => 0 < x.wt) (fun x hx _ => h0 x hx) (fun _ a b ha hb => by show 0 < a.wt + b.wt; omega) k
    have hsum : ∀ i, sumC i ((mrg C (pks (rows C k))).take t) = sumC i (C.take c) + sumC i ((rows C k).take (2 * p)) := by
      intro i
      have e1 : sumC i ((mrg C (pks (rows C k))).take t) = sumC i (C.take c ++ (pks (rows C k)).take p) := perm_sum _ hperm
      have e2 : sumC i ((pks (rows C k)).take p) = sumC i ((rows C k).take (2 * p)) := pks_sum (Pm.cnt i) (fun a b => rfl) h2p
      rw [e1, sumC_append, e2]
    have hmono : ∀ c' ∈ cs, c' ≤ c := by
      have hhead : cs.headD 0 ≤ c := by
        refine Nat.le_of_not_lt fun hlt => ?_
        have hin : C.take (cs.headD 0) ≠ [] ∧ cs.headD 0 ≤ C.length := by
          cases cs with
          | nil => simp at l1
          | cons a cs =>
            have ha := l3 a (by simp)
            simp only [List.headD_cons] at hlt ⊢
            exact ⟨fun hn => by rw [List.take_eq_nil_iff] at hn; rcases hn with hn | hn; omega; subst hn; simp at ha; omega, ha⟩
        have hcl : c < C.length := by omega
        have hmem : C[c] ∈ (rows C k).take (2 * p) := l6 _ (by
          rw [List.mem_take_iff_getElem]
          exact ⟨c, by omega, rfl⟩)
        rw [List.mem_take_iff_getElem] at hmem
        obtain ⟨j, hj, ej⟩ := hmem
        have hp0 : p ≠ 0 := by omega
        have hpl : p - 1 < (pks (rows C k)).length := by rw [pks_len]; omega
        have htie := htie _ _ (List.getElem?_eq_getElem hcl) hp0 (List.getElem?_eq_getElem hpl)
        obtain ⟨a, b, e1, e2, e3⟩ := pks_get (List.getElem?_eq_getElem hpl)
        rw [e3] at htie
        have h1 : C[c].wt ≤ b.wt := by
          rw [← ej]
          exact srt_get hs (by omega) (List.getElem?_eq_getElem (by omega)) e2
        have ha := hpos a (List.mem_of_getElem? e1)
        have : (Pm.pair a b).wt = a.wt + b.wt := rfl
        omega
      cases cs with
      | nil => intro c' hc'; simp at hc'
      | cons a cs =>
        simp only [List.headD_cons] at hhead
        intro c' hc'
        rcases List.mem_cons.1 hc' with rfl | hc'
        · exact hhead
        · exact Nat.le_trans ((List.pairwise_cons.1 l4).1 c' hc') hhead
    refine ⟨c :: cs, by rw [List.length_cons, l1], fun i => ?_, fun c' hc' => ?_, List.pairwise_cons.2 ⟨hmono, l4⟩, ?_, fun x hx => ?_⟩
    · rw [hsum, l2, List.map_cons, List.sum_cons]
    · rcases List.mem_cons.1 hc' with rfl | hc'
      · exact hc
      · exact l3 c' hc'
    · rw [vl, l1, l5, ← e, Nat.add_mul, Nat.pow_succ, Nat.mul_comm 2 p, Nat.mul_assoc p 2, Nat.mul_comm 2]
    · rw [List.headD_cons] at hx
      exact hperm.mem_iff.2 (List.mem_append.2 (.inl hx))
def pw (cs : List Nat) (q : Nat) : Nat := match cs with
  | [] => 0
  | c :: cs => (if q < c then 2 ^ cs.length else 0) + pw cs q
def ln (cs : List Nat) (q : Nat) : Nat := cs.countP fun c => decide (q < c)
theorem ln_cons (c : Nat) (cs : List Nat) (q : Nat) : ln (c :: cs) q = ln cs q + if q < c then 1 else 0 := by
  unfold ln; rw [List.countP_cons]; simp
theorem ln_le (cs : List Nat) (q : Nat) : ln cs q ≤ cs.length := List.countP_le_length
theorem pw_ln {q : Nat} : ∀ {cs : List Nat}, cs.Pairwise (fun a b => b ≤ a) → 2 ^ (cs.length - ln cs q) + pw cs q = 2 ^ cs.length
  | [], _ => by simp [pw, ln]
  | c :: cs, h => by
    have hp := List.pairwise_cons.1 h
    have ih := pw_ln (q := q) hp.2
    have hl := ln_le cs q
    rw [ln_cons, pw, List.length_cons]
    by_cases hq : q < c
    · rw [if_pos hq, if_pos hq, show cs.length + 1 - (ln cs q + 1) = cs.length - ln cs q from by omega, Nat.pow_succ]
      omega
    · rw [if_neg hq, if_neg hq]
      have h0 : ln cs q = 0 := by
        unfold ln
        rw [List.countP_eq_zero]
        intro a ha
        have := hp.1 a ha
        simp; omega
      rw [h0] at ih ⊢
      simp only [Nat.sub_zero, Nat.add_zero, Nat.zero_add] at ih ⊢
      omega
theorem msum_add (f g : Nat → Nat) : ∀ n, msum (fun q => f q + g q) n = msum f n + msum g n
  | 0 => rfl
  | n + 1 => by simp only [msum, msum_add f g n]; omega
theorem msum_lt (a : Nat) {c : Nat} : ∀ {n : Nat}, msum (fun q => if q < c then a else 0) n = min c n * a
  | 0 => by simp [msum]
  | n + 1 => by
    rw [msum, msum_lt (n := n)]
    by_cases h : n < c
    · rw [if_pos h, show min c (n + 1) = min c n + 1 from by omega, Nat.add_mul, Nat.one_mul]
    · rw [if_neg h, show min c (n + 1) = min c n from by omega, Nat.add_zero]
theorem msum_pw {n : Nat} : ∀ {cs : List Nat}, (∀ c ∈ cs, c ≤ n) → msum (pw cs) n = vl cs
  | [], _ => by
    have : ∀ n, msum (pw []) n = 0 := by
      intro n
      induction n with
      | zero => rfl
      | succ n ih => rw [msum, ih]; rfl
    exact this n
  | c :: cs, h => by
    have ih := msum_pw (cs := cs) fun x hx => h x (by simp [hx])
    have : pw (c :: cs) = fun q => (if q < c then 2 ^ cs.length else 0) + pw cs q := rfl
    rw [this, msum_add, ih, msum_lt, Nat.min_eq_left (h c (by simp)), vl]
theorem msum_const (a : Nat) : ∀ n, msum (fun _ => a) n = n * a
  | 0 => by simp [msum]
  | n + 1 => by rw [msum, msum_const a n, Nat.add_mul, Nat.one_mul]
theorem kraft_cs {n k : Nat} {cs : List Nat} (hn : 1 ≤ n) (hl : cs.length = k + 1) (hp : cs.Pairwise fun a b => b ≤ a) (hc : ∀ c ∈ cs, c ≤ n) (hv : vl cs = (2 * n - 2) * 2 ^ k) : msum (fun q => 2 ^ (k + 1 - ln cs q)) n = 2 ^ (k + 1) := by
  have h1 : msum (fun q => 2 ^ (k + 1 - ln cs q) + pw cs q) n = n * 2 ^ (k + 1) := by
    rw [← msum_const]
    congr 1
    funext q
    rw [← hl]
    exact pw_ln hp
  have e : 2 * 2 ^ k = 2 ^ (k + 1) := by rw [Nat.pow_succ, Nat.mul_comm]
  rw [msum_add, msum_pw hc, hv, show 2 * n - 2 = (n - 1) * 2 from by omega, Nat.mul_assoc, e] at h1
  obtain ⟨m, rfl⟩ : ∃ m, n = m + 1 := ⟨n - 1, by omega⟩
  rw [Nat.add_sub_cancel, Nat.add_mul, Nat.one_mul] at h1
  omega
theorem head_cs {n k : Nat} {cs : List Nat} (hn : 2 ≤ n) (hl : cs.length = k + 1) (hp : cs.Pairwise fun a b => b ≤ a) (hc : ∀ c ∈ cs, c ≤ n) (hv : vl cs = (2 * n - 2) * 2 ^ k) {q : Nat} (hq : q < n) : 1 ≤ ln cs q := by
  cases cs with
  | nil => simp at hl
  | cons c cs =>
    have hp' := List.pairwise_cons.1 hp
    have h1 : ∀ x ∈ c :: cs, x ≤ c := by
      intro x hx
      rcases List.mem_cons.1 hx with rfl | hx
      · exact Nat.le_refl _
      · exact hp'.1 x hx
    have h2 := vl_le h1
    rw [hv, hl, Nat.pow_succ, Nat.mul_comm (2 ^ k) 2, ← Nat.mul_assoc] at h2
    have hk := Nat.pow_pos (n := k) (show 0 < 2 by decide)
    have : n ≤ c := by
      refine Nat.le_of_not_lt fun hlt => ?_
      have : c * 2 * 2 ^ k ≤ (2 * n - 2) * 2 ^ k := Nat.mul_le_mul_right _ (by omega)
      have hc0 : c = 0 := by omega
      subst hc0
      have : 1 * 2 ^ k ≤ (2 * n - 2) * 2 ^ k := Nat.mul_le_mul_right _ (by omega)
      omega
    rw [ln_cons, if_pos (by omega)]; omega
end Go.Vit
end

section
namespace Go.Vit
def Pm.sym : Pm → Nat
  | .coin _ s => s
  | .pair _ _ => 0
def Pm.isC (L : List Int) : Pm → Prop
  | .coin n s => s < L.length ∧ n = L.getD s 0 ∧ 0 < n
  | .pair _ _ => False
theorem isC_cnt {L : List Int} {x : Pm} (h : x.isC L) (i : Nat) : x.cnt i = if x.sym = i then 1 else 0 := by
  cases x with
  | coin n s => rfl
  | pair a b => exact h.elim
theorem sumC_none {L : List Int} {i : Nat} : ∀ {l : List Pm}, (∀ x ∈ l, x.isC L ∧ x.sym ≠ i) → sumC i l = 0
  | [], _ => rfl
  | x :: l, h => by
    have hx := h x (by simp)
    have ih := sumC_none (l := l) fun y hy => h y (by simp [hy])
    unfold sumC at ih ⊢
    rw [List.map_cons, List.sum_cons, ih, isC_cnt hx.1, if_neg hx.2]
theorem sumC_take {L : List Int} : ∀ {l : List Pm} {q c : Nat} {x : Pm}, (∀ x ∈ l, x.isC L) → (l.map Pm.sym).Nodup → l[q]? = some x → sumC x.sym (l.take c) = if q < c then 1 else 0
  | [], q, c, x, _, _, h => by simp at h
  | y :: l, q, 0, x, _, _, _ => by simp [sumC]
  | y :: l, 0, c + 1, x, hc, hn, h => by
    simp only [List.getElem?_cons_zero, Option.some.injEq] at h
    subst h
    rw [List.map_cons, List.nodup_cons] at hn
    have h0 : sumC y.sym (l.take c) = 0 := sumC_none fun z hz => ⟨hc z (by simp [List.mem_of_mem_take hz]), fun e => hn.1 (by rw [← e]; exact List.mem_map_of_mem (List.mem_of_mem_take hz))⟩
    unfold sumC at h0 ⊢
    rw [List.take_succ_cons, List.map_cons, List.sum_cons, h0, isC_cnt (hc y (by simp)), if_pos rfl, if_pos (by omega)]
  | y :: l, q + 1, c + 1, x, hc, hn, h => by
    rw [List.getElem?_cons_succ] at h
    rw [List.map_cons, List.nodup_cons] at hn
    have ih := sumC_take (c := c) (fun z hz => hc z (by simp [hz])) hn.2 h
    have hy : y.sym ≠ x.sym := fun e => hn.1 (by rw [e]; exact List.mem_map_of_mem (List.mem_of_getElem? h))
    unfold sumC at ih ⊢
    rw [List.take_succ_cons, List.map_cons, List.sum_cons, ih, isC_cnt (hc y (by simp)), if_neg hy, Nat.zero_add]
    by_cases e : q < c
    · rw [if_pos e, if_pos (by omega)]
    · rw [if_neg e, if_neg (by omega)]
theorem coinsTo_isC {L : List Int} {i : Nat} (hi : i ≤ L.length) : ∀ x ∈ coinsTo L i, x.isC L := by
  intro x hx
  obtain ⟨j, h1, h2, rfl⟩ := coinsTo_mem hx
  exact ⟨by omega, rfl, h2⟩
theorem coinsTo_sym (L : List Int) (i : Nat) : (coinsTo L i).map Pm.sym = (List.range i).filter fun j => decide (0 < L.getD j 0) := by
  unfold coinsTo
  rw [List.map_map]
  exact List.map_id _
theorem coinsTo_nodup (L : List Int) (i : Nat) : ((coinsTo L i).map Pm.sym).Nodup := by
  rw [coinsTo_sym]
  exact List.nodup_range.filter _
def srtC (L : List Int) : List Pm := isort (coinsOf L)
theorem srtC_isC (L : List Int) : ∀ x ∈ srtC L, x.isC L := fun x hx => coinsTo_isC (Nat.le_refl _) x (isort_mem.1 hx)
theorem srtC_nodup (L : List Int) : ((srtC L).map Pm.sym).Nodup := ((isort_perm _).map _).nodup_iff.2 (coinsTo_nodup L L.length)
theorem srtC_len (L : List Int) : (srtC L).length = (coinsOf L).length := isort_len _
theorem srtC_pos (L : List Int) : ∀ x ∈ srtC L, 0 < x.wt := by
  intro x hx
  have h := srtC_isC L x hx
  cases x with
  | coin n s => exact h.2.2
  | pair a b => exact h.elim
theorem coin_in {L : List Int} {i : Nat} (hi : i < L.length) (h : 0 < L.getD i 0) : ∃ q, ∃ _ : q < (srtC L).length, (srtC L)[q] = .coin (L.getD i 0) i := by
  have : Pm.coin (L.getD i 0) i ∈ srtC L := by
    unfold srtC
    rw [isort_mem]
    unfold coinsOf coinsTo
    rw [List.mem_map]
    exact ⟨i, by rw [List.mem_filter, List.mem_range]; exact ⟨hi, by simpa using h⟩, rfl⟩
  obtain ⟨q, hq, e⟩ := List.getElem_of_mem this
  exact ⟨q, hq, e⟩
theorem arr_getD (f : Nat → Int) (n i : Nat) : (arr f n).getD i 0 = if i < n then f i else 0 := by
  by_cases h : i < n
  · rw [if_pos h, getD_of (by rw [arr_len]; exact h)]; simp [arr]
  · rw [if_neg h, List.getD_eq_getElem?_getD, List.getElem?_eq_none (by rw [arr_len]; omega)]; rfl
structure Lim (most : Nat) (L : List Int) (l : List Int) (cs : List Nat) : Prop where
  len : cs.length = most
  dec : cs.Pairwise fun a b => b ≤ a
  le : ∀ c ∈ cs, c ≤ (coinsOf L).length
  at' : ∀ q (h : q < (srtC L).length), l.getD ((srtC L)[q]).sym 0 = ln cs q
  no : ∀ i, ¬ 0 < L.getD i 0 → l.getD i 0 = 0
  sum : msum (fun q => 2 ^ (most - ln cs q)) (coinsOf L).length = 2 ^ most
  pos : ∀ q < (coinsOf L).length, 1 ≤ ln cs q
theorem ln_sum (q : Nat) : ∀ cs : List Nat, (cs.map fun c => if q < c then 1 else 0).sum = ln cs q
  | [] => rfl
  | c :: cs => by rw [List.map_cons, List.sum_cons, ln_cons, ln_sum q cs, Nat.add_comm]
theorem zero_sum : ∀ cs : List Nat, (cs.map fun _ => 0).sum = 0
  | [] => rfl
  | c :: cs => by rw [List.map_cons, List.sum_cons, zero_sum cs]
theorem limit_lim {most : Nat} {L : List Int} (h1 : 1 ≤ most) (hn : 2 ≤ (coinsOf L).length) (h2 : (coinsOf L).length ≤ 2 ^ most) : ∃ cs, Lim most L (limit most L) cs := by
  obtain ⟨n, hne⟩ : ∃ n, (coinsOf L).length = n := ⟨_, rfl⟩
  have hs : Srt Pm.wt (srtC L) := (isort_ss _).2
  have hlen := rows_len (srtC L) (most - 1) 2 (by
    obtain ⟨m, rfl⟩ : ∃ m, most = m + 1 := ⟨most - 1, by omega⟩
    rw [Nat.add_sub_cancel, srtC_len, Nat.mul_comm, ← Nat.pow_succ]; exact h2)
  rw [srtC_len] at hlen
  obtain ⟨cs, l1, l2, l3, l4, l5, _⟩ := lev hs (srtC_pos L) (most - 1) (2 * n - 2) (by omega)
  rw [srtC_len] at l3
  rw [hne] at l3
  have hl : limit most L = arr (fun i => sumC i ((rows (srtC L) (most - 1)).take (2 * n - 2))) L.length := by
    unfold limit
    rw [if_neg (by omega), hne]; rfl
  have hat : ∀ q (h : q < (srtC L).length), sumC ((srtC L)[q]).sym ((rows (srtC L) (most - 1)).take (2 * n - 2)) = ln cs q := by
    intro q hq
    rw [l2, List.map_congr_left (fun c _ => sumC_take (c := c) (srtC_isC L) (srtC_nodup L) (List.getElem?_eq_getElem hq))]
    exact ln_sum q cs
  refine ⟨cs, by omega, l4, by rw [hne]; exact l3, fun q h => ?_, fun i h => ?_, ?_, fun q hq => head_cs (by omega) l1 l4 l3 l5 (by omega)⟩
  · rw [hl, arr_getD, hat q h, if_pos]
    have := srtC_isC L _ (List.getElem_mem h)
    cases e : (srtC L)[q] with
    | coin w s => rw [e] at this; exact this.1
    | pair a b => rw [e] at this; exact this.elim
  · rw [hl, arr_getD]
    split
    · rw [l2]
      have hz : ∀ c, sumC i ((srtC L).take c) = 0 := fun c => sumC_none fun x hx => by
        have hx := srtC_isC L x (List.mem_of_mem_take hx)
        refine ⟨hx, fun e => ?_⟩
        cases x with
        | coin w s => have := hx.2; simp only [Pm.sym] at e; subst e; omega
        | pair a b => exact hx.elim
      have : (cs.map fun c => sumC i ((srtC L).take c)).sum = 0 := by
        rw [List.map_congr_left (fun c _ => hz c)]
        exact zero_sum cs
      rw [this]; rfl
    · rfl
  · have := kraft_cs (n := n) (k := most - 1) (by omega) l1 l4 l3 l5
    rw [show most - 1 + 1 = most from by omega] at this
    rw [hne]; exact this
/-! ### The room that codes take -/
theorem room_arr (f : Nat → Int) : ∀ m, room (arr f m) = msum (fun i => if 0 < f i then 2 ^ (15 - f i).toNat else 0) m
  | 0 => rfl
  | m + 1 => by
    have ih := room_arr f m
    have e : arr f (m + 1) = arr f m ++ [f m] := by unfold arr; rw [List.range_succ, List.map_append]; rfl
    rw [e, msum, ← ih]
    unfold room
    rw [List.map_append, List.sum_append]; simp
theorem room_getD (l : List Int) : room l = msum (fun i => if 0 < l.getD i 0 then 2 ^ (15 - l.getD i 0).toNat else 0) l.length := by
  have : l = arr (fun i => l.getD i 0) l.length := by
    refine List.ext_getElem (by rw [arr_len]) fun i h1 h2 => ?_
    simp [arr, List.getElem?_eq_getElem h1]
  have e := room_arr (fun i => l.getD i 0) l.length
  rw [← this] at e
  exact e
theorem msum_coins (G : Nat → Nat) (L : List Int) : ∀ m, msum (fun i => if 0 < L.getD i 0 then G i else 0) m = ((coinsTo L m).map fun x => G x.sym).sum
  | 0 => rfl
  | m + 1 => by
    rw [msum, msum_coins G L m, coinsTo_succ, List.map_append, List.sum_append]
    by_cases h : 0 < L.getD m 0
    · rw [if_pos h, if_pos h]; simp [Pm.sym]
    · rw [if_neg h, if_neg h]; simp
theorem sum_msum (F : Pm → Nat) : ∀ l : List Pm, (l.map F).sum = msum (fun q => F (l.getD q (.coin 0 0))) l.length := by
  intro l
  have : ∀ (l : List Pm) (m : Nat), m ≤ l.length → ((l.take m).map F).sum = msum (fun q => F (l.getD q (.coin 0 0))) m := by
    intro l m
    induction m with
    | zero => intro _; simp [msum]
    | succ m ih =>
      intro h
      have hm : m < l.length := by omega
      rw [msum, ← ih (by omega), List.take_succ_eq_append_getElem hm, List.map_append, List.sum_append]
      simp [List.getD, List.getElem?_eq_getElem hm]
  have := this l l.length (Nat.le_refl _)
  rw [List.take_length] at this
  exact this
theorem msum_congr {f g : Nat → Nat} : ∀ {n : Nat}, (∀ q < n, f q = g q) → msum f n = msum g n
  | 0, _ => rfl
  | n + 1, h => by rw [msum, msum, msum_congr (n := n) fun q hq => h q (by omega), h n (by omega)]
theorem msum_mul (a : Nat) (f : Nat → Nat) : ∀ n, msum (fun q => a * f q) n = a * msum f n
  | 0 => by simp [msum]
  | n + 1 => by rw [msum, msum, msum_mul a f n, Nat.mul_add]
theorem lim_room {most : Nat} {L l : List Int} {cs : List Nat} (h : Lim most L l cs) (hl : l.length = L.length) (hm : most ≤ 15) : room l = 32768 := by
  have hpos : ∀ i, i < L.length → (0 < l.getD i 0 ↔ 0 < L.getD i 0) := by
    intro i hi
    constructor
    · intro h0
      refine Decidable.byContradiction fun hn => ?_
      have := h.no i hn; omega
    · intro h0
      obtain ⟨q, hq, e⟩ := coin_in hi h0
      have h1 := h.at' q hq
      rw [e] at h1
      have h2 := h.pos q (by rw [← srtC_len]; exact hq)
      simp only [Pm.sym] at h1
      omega
  rw [room_getD, hl, msum_congr (g := fun i => if 0 < L.getD i 0 then 2 ^ (15 - l.getD i 0).toNat else 0) fun i hi => by
    by_cases h0 : 0 < L.getD i 0
    · rw [if_pos h0, if_pos ((hpos i hi).2 h0)]
    · rw [if_neg h0, if_neg fun h => h0 ((hpos i hi).1 h)], msum_coins (fun i => 2 ^ (15 - l.getD i 0).toNat) L L.length]
  have e1 : ((coinsTo L L.length).map fun x => 2 ^ (15 - l.getD x.sym 0).toNat).sum = ((srtC L).map fun x => 2 ^ (15 - l.getD x.sym 0).toNat).sum := perm_sum _ (isort_perm _).symm
  rw [e1, sum_msum, srtC_len, msum_congr (g := fun q => 2 ^ (15 - most) * 2 ^ (most - ln cs q)) fun q hq => ?_, msum_mul, h.sum, ← Nat.pow_add, show 15 - most + most = 15 from by omega]
  have hq' : q < (srtC L).length := by rw [srtC_len]; exact hq
  have e2 : (srtC L).getD q (.coin 0 0) = (srtC L)[q] := by simp [List.getD, List.getElem?_eq_getElem hq']
  have e3 := h.at' q hq'
  have e4 := ln_le cs q
  rw [h.len] at e4
  rw [e2, e3, ← Nat.pow_add]
  congr 1
  omega
end Go.Vit
end

section
namespace Go.Vit
/-! ### A greater row is lighter, thing by thing -/
def cle (v : Int) (l : List Pm) : Nat := l.countP fun x => decide (x.wt ≤ v)
def Dom (A B : List Pm) : Prop := ∀ (j : Nat) (b : Pm), B[j]? = some b → ∃ a : Pm, A[j]? = some a ∧ a.wt ≤ b.wt
theorem cle_of_dom {v : Int} : ∀ {B A : List Pm}, Dom A B → cle v B ≤ cle v A
  | [], A, _ => by simp [cle]
  | b :: B, [], h => by obtain ⟨a, ha, _⟩ := h 0 b rfl; simp at ha
  | b :: B, a :: A, h => by
    have h0 := h 0 b rfl
    simp only [List.getElem?_cons_zero, Option.some.injEq, exists_eq_left'] at h0
    have ih := cle_of_dom (v := v) (B := B) (A := A) fun j x hx => by
      have := h (j + 1) x (by simpa using hx)
      simpa using this
    unfold cle at ih ⊢
    rw [List.countP_cons, List.countP_cons]
    by_cases hb : b.wt ≤ v
    · rw [if_pos (by simpa using hb), if_pos (by simp; omega)]; omega
    · rw [if_neg (by simpa using hb)]; omega
theorem dom_of_cle {A B : List Pm} (hA : Srt Pm.wt A) (hB : Srt Pm.wt B) (h : ∀ v, cle v B ≤ cle v A) : Dom A B := by
  intro j b hj
  obtain ⟨hjl, rfl⟩ := List.getElem?_eq_some_iff.1 hj
  have h1 : j + 1 ≤ cle B[j].wt B := by
    have e : cle B[j].wt (B.take (j + 1)) = (B.take (j + 1)).length := by
      unfold cle
      rw [List.countP_eq_length]
      intro a ha
      rw [List.mem_take_iff_getElem] at ha
      obtain ⟨i, hi, rfl⟩ := ha
      simpa using srt_get hB (by omega : i ≤ j) (List.getElem?_eq_getElem (by omega)) hj
    have s : cle B[j].wt (B.take (j + 1)) ≤ cle B[j].wt B := (List.take_sublist _ _).countP_le
    rw [e, List.length_take] at s
    omega
  have h2 := h B[j].wt
  have h3 : cle B[j].wt A ≤ A.length := List.countP_le_length
  have hjA : j < A.length := by omega
  refine ⟨A[j], List.getElem?_eq_getElem hjA, ?_⟩
  refine Int.not_lt.1 fun hlt => ?_
  have h4 : cle B[j].wt A = cle B[j].wt (A.take j) + cle B[j].wt (A.drop j) := by
    unfold cle; rw [← List.countP_append, List.take_append_drop]
  have h5 : cle B[j].wt (A.drop j) = 0 := by
    unfold cle
    rw [List.countP_eq_zero]
    intro a ha
    obtain ⟨i, hi⟩ := List.getElem?_of_mem ha
    rw [List.getElem?_drop] at hi
    have := srt_get hA (by omega : j ≤ j + i) (List.getElem?_eq_getElem hjA) hi
    simp; omega
  have h6 : cle B[j].wt (A.take j) ≤ (A.take j).length := List.countP_le_length
  rw [List.length_take] at h6
  omega
theorem cle_isort (v : Int) (X : List Pm) : cle v (isort X) = cle v X := (isort_perm X).countP_eq _
theorem cle_append (v : Int) (X Y : List Pm) : cle v (X ++ Y) = cle v X + cle v Y := List.countP_append
theorem pks_at : ∀ {l : List Pm} {i : Nat} {a b : Pm}, l[2 * i]? = some a → l[2 * i + 1]? = some b → (pks l)[i]? = some (.pair a b)
  | [], i, a, b, h, _ => by simp at h
  | [x], 0, a, b, _, h => by simp at h
  | [x], i + 1, a, b, h, _ => by rw [show 2 * (i + 1) = (2 * i + 1) + 1 from by omega] at h; simp at h
  | x :: y :: r, 0, a, b, h1, h2 => by
    simp at h1 h2
    subst h1 h2
    simp [pks]
  | x :: y :: r, i + 1, a, b, h1, h2 => by
    rw [show 2 * (i + 1) + 1 = ((2 * i + 1) + 1) + 1 from by omega, List.getElem?_cons_succ, List.getElem?_cons_succ] at h2
    rw [show 2 * (i + 1) = (2 * i + 1) + 1 from by omega, List.getElem?_cons_succ, List.getElem?_cons_succ] at h1
    rw [pks, List.getElem?_cons_succ]
    exact pks_at h1 h2
theorem dom_pks {A B : List Pm} (h : Dom A B) : Dom (pks A) (pks B) := by
  intro j b hj
  obtain ⟨u, v, e1, e2, rfl⟩ := pks_get hj
  obtain ⟨u', f1, g1⟩ := h _ _ e1
  obtain ⟨v', f2, g2⟩ := h _ _ e2
  refine ⟨_, pks_at f1 f2, ?_⟩
  show u'.wt + v'.wt ≤ u.wt + v.wt
  omega
theorem dom_rows {C : List Pm} (h : Srt Pm.wt C) : ∀ k, Dom (rows C (k + 1)) (rows C k)
  | 0 => dom_of_cle (rows_srt h _) (rows_srt h _) fun v => by
    show cle v C ≤ cle v (isort (C ++ pks C))
    rw [cle_isort, cle_append]; omega
  | k + 1 => dom_of_cle (rows_srt h _) (rows_srt h _) fun v => by
    show cle v (isort (C ++ pks (rows C k))) ≤ cle v (isort (C ++ pks (rows C (k + 1))))
    rw [cle_isort, cle_append, cle_isort, cle_append]
    have := cle_of_dom (v := v) (dom_pks (dom_rows h k))
    omega
theorem dom_sum : ∀ {t : Nat} {A B : List Pm}, Dom A B → t ≤ B.length → ((A.take t).map Pm.wt).sum ≤ ((B.take t).map Pm.wt).sum
  | 0, _, _, _, _ => by simp
  | t + 1, A, [], _, ht => by simp at ht
  | t + 1, [], b :: B, h, _ => by obtain ⟨a, ha, _⟩ := h 0 b rfl; simp at ha
  | t + 1, a :: A, b :: B, h, ht => by
    have h0 := h 0 b rfl
    simp only [List.getElem?_cons_zero, Option.some.injEq, exists_eq_left'] at h0
    have ih := dom_sum (t := t) (A := A) (B := B) (fun j x hx => by
      have := h (j + 1) x (by simpa using hx)
      simpa using this) (by simpa using ht)
    rw [List.take_succ_cons, List.take_succ_cons, List.map_cons, List.map_cons, List.sum_cons, List.sum_cons]
    omega
/-! ### What a list of things weighs -/
def isum (f : Nat → Int) : Nat → Int
  | 0 => 0
  | n + 1 => isum f n + f n
theorem isum_add (f g : Nat → Int) : ∀ n, isum (fun i => f i + g i) n = isum f n + isum g n
  | 0 => rfl
  | n + 1 => by simp only [isum, isum_add f g n]; omega
theorem isum_congr {f g : Nat → Int} : ∀ {n : Nat}, (∀ i < n, f i = g i) → isum f n = isum g n
  | 0, _ => rfl
  | n + 1, h => by rw [isum, isum, isum_congr (n := n) fun i hi => h i (by omega), h n (by omega)]
theorem isum_one (a : Int) (s : Nat) : ∀ n, isum (fun i => if s = i then a else 0) n = if s < n then a else 0
  | 0 => by simp [isum]
  | n + 1 => by
    rw [isum, isum_one a s n]
    by_cases h : s < n
    · rw [if_pos h, if_neg (by omega), if_pos (by omega)]; omega
    · rw [if_neg h]
      by_cases h' : s = n
      · rw [if_pos h', if_pos (by omega)]; omega
      · rw [if_neg h', if_neg (by omega)]; omega
theorem isum_zero : ∀ n, isum (fun _ => 0) n = 0
  | 0 => rfl
  | n + 1 => by rw [isum, isum_zero n]; rfl
def Pm.lf (L : List Int) : Pm → Prop
  | .coin n s => s < L.length ∧ n = L.getD s 0
  | .pair a b => a.lf L ∧ b.lf L
theorem wt_cnt {L : List Int} : ∀ {x : Pm}, x.lf L → x.wt = isum (fun i => (x.cnt i : Int) * L.getD i 0) L.length
  | .coin n s, h => by
    have := isum_one (L.getD s 0) s L.length
    rw [if_pos h.1] at this
    show n = _
    rw [h.2, ← this]
    refine isum_congr fun i _ => ?_
    show _ = ((if s = i then 1 else 0 : Nat) : Int) * _
    by_cases e : s = i
    · rw [if_pos e, if_pos e, e]; simp
    · rw [if_neg e, if_neg e]; simp
  | .pair a b, h => by
    show a.wt + b.wt = _
    rw [wt_cnt h.1, wt_cnt h.2, ← isum_add]
    refine isum_congr fun i _ => ?_
    show _ = ((a.cnt i + b.cnt i : Nat) : Int) * _
    rw [Int.natCast_add, Int.add_mul]
theorem wt_sum {L : List Int} : ∀ {X : List Pm}, (∀ x ∈ X, x.lf L) → (X.map Pm.wt).sum = isum (fun i => (sumC i X : Int) * L.getD i 0) L.length
  | [], _ => by
    rw [isum_congr (g := fun _ => 0) fun i _ => by simp [sumC], isum_zero]; rfl
  | x :: X, h => by
    rw [List.map_cons, List.sum_cons, wt_sum (X := X) fun y hy => h y (by simp [hy]), wt_cnt (h x (by simp)), ← isum_add]
    refine isum_congr fun i _ => ?_
    have : sumC i (x :: X) = x.cnt i + sumC i X := by unfold sumC; rw [List.map_cons, List.sum_cons]
    rw [this, Int.natCast_add, Int.add_mul]
def cost (l L : List Int) : Int := isum (fun i => l.getD i 0 * L.getD i 0) L.length
theorem limit_getD {most : Nat} {L : List Int} {i : Nat} (hi : i < L.length) : (limit most L).getD i 0 = if (coinsOf L).length = 1 then (sumC i (coinsOf L) : Int) else (sumC i ((rows (isort (coinsOf L)) (most - 1)).take (2 * (coinsOf L).length - 2)) : Int) := by
  unfold limit
  split
  · rw [arr_getD, if_pos hi]
  · rw [arr_getD, if_pos hi]
theorem limit_cost {most : Nat} {L : List Int} (h1 : 1 ≤ most) (h2 : (coinsOf L).length ≤ 2 ^ most) : cost (limit (most + 1) L) L ≤ cost (limit most L) L := by
  have hl : ∀ m, (limit m L).length = L.length := fun m => by unfold limit; split <;> exact arr_len _ _
  by_cases hn1 : (coinsOf L).length = 1
  · refine Int.le_of_eq (isum_congr fun i hi => ?_)
    rw [limit_getD hi, limit_getD hi, if_pos hn1, if_pos hn1]
  by_cases hn : 2 ≤ (coinsOf L).length
  · have hs : Srt Pm.wt (srtC L) := (isort_ss _).2
    have hlf : ∀ k, ∀ x ∈ rows (srtC L) k, x.lf L := rows_all (p := fun _ x => x.lf L) (fun x hx _ => by
      have := srtC_isC L x hx
      cases x with
      | coin n s => exact ⟨this.1, this.2.1⟩
      | pair a b => exact this.elim) (fun _ a b ha hb => ⟨ha, hb⟩)
    have hlen := rows_len (srtC L) (most - 1) 2 (by
      obtain ⟨m, rfl⟩ : ∃ m, most = m + 1 := ⟨most - 1, by omega⟩
      rw [Nat.add_sub_cancel, srtC_len, Nat.mul_comm, ← Nat.pow_succ]; exact h2)
    rw [srtC_len] at hlen
    have e : ∀ m, cost (limit m L) L = (((rows (srtC L) (m - 1)).take (2 * (coinsOf L).length - 2)).map Pm.wt).sum := by
      intro m
      rw [wt_sum fun x hx => hlf _ x (List.mem_of_mem_take hx)]
      refine isum_congr fun i hi => ?_
      rw [limit_getD hi, if_neg hn1]; rfl
    rw [e, e]
    have hd := dom_rows hs (most - 1)
    rw [show most - 1 + 1 = most + 1 - 1 from by omega] at hd
    exact dom_sum hd (by omega)
  · refine Int.le_of_eq (isum_congr fun i hi => ?_)
    rw [limit_getD hi, limit_getD hi, if_neg hn1, if_neg hn1, show 2 * (coinsOf L).length - 2 = 0 from by omega, List.take_zero, List.take_zero]
end Go.Vit
end

section
namespace Go.Vit
theorem limit_length (most : Nat) (L : List Int) : (limit most L).length = L.length := by unfold limit; split <;> exact arr_len _ _
theorem coins_one {L : List Int} (h : (coinsOf L).length = 1) : ∃ j, j < L.length ∧ 0 < L.getD j 0 ∧ coinsOf L = [.coin (L.getD j 0) j] ∧ (∀ i < L.length, 0 < L.getD i 0 → i = j) := by
  obtain ⟨t, ht⟩ := List.length_eq_one_iff.1 h
  obtain ⟨j, hj, h0, hjt⟩ := coinsTo_mem (L := L) (i := L.length) (x := t) (by rw [show coinsTo L L.length = coinsOf L from rfl, ht]; simp)
  refine ⟨j, hj, h0, by rw [ht, hjt], fun i hi h0' => ?_⟩
  have : Pm.coin (L.getD i 0) i ∈ coinsOf L := by
    unfold coinsOf coinsTo
    rw [List.mem_map]
    exact ⟨i, by rw [List.mem_filter, List.mem_range]; exact ⟨hi, by simpa using h0'⟩, rfl⟩
  rw [ht, hjt, List.mem_singleton] at this
  injection this
theorem coins_none {L : List Int} (h : (coinsOf L).length = 0) : ∀ i < L.length, ¬ 0 < L.getD i 0 := by
  intro i hi h0
  have : Pm.coin (L.getD i 0) i ∈ coinsOf L := by
    unfold coinsOf coinsTo
    rw [List.mem_map]
    exact ⟨i, by rw [List.mem_filter, List.mem_range]; exact ⟨hi, by simpa using h0⟩, rfl⟩
  rw [List.length_eq_zero_iff.1 h] at this
  simp at this
theorem limit_one {most : Nat} {L : List Int} {j : Nat} (h : coinsOf L = [.coin (L.getD j 0) j]) : limit most L = arr (fun i => if j = i then 1 else 0) L.length := by
  unfold limit
  rw [if_pos (by rw [h]; rfl), h]
  refine arr_ext fun i _ => ?_
  rw [sumC_one]
  show (((if j = i then 1 else 0 : Nat)) : Int) = _
  split <;> rfl
theorem limit_none {most : Nat} {L : List Int} (h : (coinsOf L).length = 0) : limit most L = arr (fun _ => 0) L.length := by
  unfold limit
  rw [if_neg (by omega), h]
  exact arr_ext fun i _ => by rw [List.take_zero]; rfl
theorem limit_all {most : Nat} {L : List Int} (h1 : 1 ≤ most) (h2 : (coinsOf L).length ≤ 2 ^ most) {i : Nat} (hi : i < L.length) :
    (0 < (limit most L).getD i 0 ↔ 0 < L.getD i 0) ∧ 0 ≤ (limit most L).getD i 0 ∧ (limit most L).getD i 0 ≤ most ∧ ∀ k < L.length, L.getD k 0 < L.getD i 0 → 0 < L.getD k 0 → (limit most L).getD i 0 ≤ (limit most L).getD k 0 := by
  by_cases hn : 2 ≤ (coinsOf L).length
  · obtain ⟨cs, lim⟩ := limit_lim h1 hn h2
    have hs : Srt Pm.wt (srtC L) := (isort_ss _).2
    by_cases h0 : 0 < L.getD i 0
    · obtain ⟨q, hq, e⟩ := coin_in hi h0
      have e1 := lim.at' q hq
      rw [e] at e1
      simp only [Pm.sym] at e1
      have e2 := lim.pos q (by rw [← srtC_len]; exact hq)
      have e3 := ln_le cs q
      rw [lim.len] at e3
      refine ⟨⟨fun _ => h0, fun _ => by omega⟩, by omega, by omega, fun k hk hlt hk0 => ?_⟩
      obtain ⟨q', hq', e'⟩ := coin_in hk hk0
      have e1' := lim.at' q' hq'
      rw [e'] at e1'
      simp only [Pm.sym] at e1'
      have hqq : q' ≤ q := by
        refine Nat.le_of_not_lt fun hlt' => ?_
        have := srt_get hs (Nat.le_of_lt hlt') (List.getElem?_eq_getElem hq) (List.getElem?_eq_getElem hq')
        rw [e, e'] at this
        simp only [Pm.wt] at this
        omega
      have : ln cs q ≤ ln cs q' := by
        unfold ln
        refine List.countP_mono_left fun c _ hc => ?_
        simp at hc ⊢; omega
      omega
    · have := lim.no i h0
      exact ⟨⟨fun h => by omega, fun h => absurd h h0⟩, by omega, by omega, fun k hk hlt hk0 => by omega⟩
  · by_cases hn1 : (coinsOf L).length = 1
    · obtain ⟨j, hj, h0, hc, hu⟩ := coins_one hn1
      rw [limit_one hc, arr_getD, if_pos hi]
      by_cases e : j = i
      · subst e
        rw [if_pos rfl]
        exact ⟨⟨fun _ => h0, fun _ => by omega⟩, by omega, by omega, fun k hk hlt hk0 => by have := hu k hk hk0; subst this; omega⟩
      · rw [if_neg e]
        have : ¬ 0 < L.getD i 0 := fun h => e (hu i hi h).symm
        exact ⟨⟨fun h => by omega, fun h => absurd h this⟩, by omega, by omega, fun k hk hlt hk0 => by omega⟩
    · have h0 : (coinsOf L).length = 0 := by omega
      have := coins_none h0 i hi
      rw [limit_none h0, arr_getD, if_pos hi]
      exact ⟨⟨fun h => by omega, fun h => absurd h this⟩, by omega, by omega, fun k hk hlt hk0 => by omega⟩
theorem many_arr (f : Nat → Int) : ∀ m, many (arr f m) = msum (fun i => if 0 < f i then 1 else 0) m
  | 0 => rfl
  | m + 1 => by
    have ih := many_arr f m
    have e : arr f (m + 1) = arr f m ++ [f m] := by unfold arr; rw [List.range_succ, List.map_append]; rfl
    rw [e, msum, ← ih]
    unfold many
    rw [List.countP_append, List.countP_singleton]; simp
theorem cN_arr (f : Nat → Int) (n : Nat) : ∀ m, cN (arr f m) n = msum (fun i => if 0 < f i ∧ f i = n then 1 else 0) m
  | 0 => rfl
  | m + 1 => by
    have ih := cN_arr f n m
    have e : arr f (m + 1) = arr f m ++ [f m] := by unfold arr; rw [List.range_succ, List.map_append]; rfl
    rw [e, cN_append, msum, ← ih]
    unfold cN
    rw [List.countP_singleton]; simp
theorem msum_ind (a : Nat) (j : Nat) : ∀ m, msum (fun i => if j = i then a else 0) m = if j < m then a else 0
  | 0 => by simp [msum]
  | m + 1 => by
    rw [msum, msum_ind a j m]
    by_cases h : j < m
    · rw [if_pos h, if_neg (by omega), if_pos (by omega)]; omega
    · rw [if_neg h]
      by_cases h' : j = m
      · rw [if_pos h', if_pos (by omega)]; omega
      · rw [if_neg h', if_neg (by omega)]
theorem limit_chk {most : Nat} {L : List Int} (h1 : 1 ≤ most) (h15 : most ≤ 15) (hl : L.length ≤ 288) (h2 : (coinsOf L).length ≤ 2 ^ most) : chk (limit most L) = 0 := by
  have hlen := limit_length most L
  have hlens : lens (limit most L) := by
    refine ⟨by omega, fun x hx => ?_⟩
    obtain ⟨i, hi, rfl⟩ := List.getElem_of_mem hx
    have := limit_all h1 h2 (i := i) (by omega)
    rw [getD_of hi] at this
    omega
  unfold chk
  rw [if_neg (not_not_intro hlens)]
  by_cases hn : 2 ≤ (coinsOf L).length
  · obtain ⟨cs, lim⟩ := limit_lim h1 hn h2
    have hr := lim_room lim hlen h15
    rw [hr, if_neg (by omega), if_neg (by omega)]
  · by_cases hn1 : (coinsOf L).length = 1
    · obtain ⟨j, hj, h0, hc, hu⟩ := coins_one hn1
      rw [limit_one hc, room_arr, many_arr, cN_arr, msum_congr (g := fun i => if j = i then 16384 else 0) fun i _ => by by_cases e : j = i <;> simp [e], msum_congr (f := fun i => if 0 < (if j = i then (1 : Int) else 0) then 1 else 0) (g := fun i => if j = i then 1 else 0) fun i _ => by by_cases e : j = i <;> simp [e], msum_congr (f := fun i => if 0 < (if j = i then (1 : Int) else 0) ∧ (if j = i then (1 : Int) else 0) = (1 : Nat) then 1 else 0) (g := fun i => if j = i then 1 else 0) fun i _ => by by_cases e : j = i <;> simp [e], msum_ind, msum_ind, if_pos hj, if_pos hj]
      decide
    · have h0 : (coinsOf L).length = 0 := by omega
      rw [limit_none h0, room_arr, many_arr]
      have z : ∀ m a, msum (fun _ => if (0 : Int) < 0 then a else 0) m = 0 := by
        intro m a
        rw [msum_congr (g := fun _ => 0) fun i _ => if_neg (by omega), msum_const]; omega
      rw [z, z]
      rw [if_neg (by omega), if_neg (by omega)]
end Go.Vit
end

section
set_option linter.unusedSimpArgs false
namespace Go.Vit
theorem RdO.rd {σ σ' : Mem} {v : AV} {L : List Int} (h : RdO 1 σ v (ic L) L.length) (hb : ∀ b ∈ blkOf v, σ'.get b = σ.get b) {i : Nat} (hi : i < L.length) {x : Int} (hx : x = (i : Nat)) {K : Int → Prop} (hk : K (L.getD i 0)) : idxW 1 v x fun p => ldI σ' p K := by
  obtain ⟨b, z, c, rfl, hg⟩ := (h.keep hb).at hi
  subst hx
  refine And.intro (show (0 : Int) ≤ (i : Nat) ∧ ((i : Nat) : Int) < (L.length : Nat) by omega) ?_
  rw [Int.toNat_natCast, Nat.mul_one]
  rw [getD_of hi] at hk
  exact hg (K := fun a => castI .i64 a K) 0 hk
theorem tpI_of {l : List AV} {i : Nat} {x : Int} {K : Int → Prop} (h : l[i]? = some (.int .i64 x)) (hk : K x) : tpI (.tup l) i K := by
  show optW l[i]? _
  rw [h]
  exact hk
theorem tupW_of {l : List AV} {i : Nat} {x : AV} {K : AV → Prop} (h : l[i]? = some x) (hk : K x) : tupW (.tup l) i K := by
  show optW l[i]? _
  rw [h]
  exact hk
end Go.Vit
end
