/- Slices that are owned and grow; footprints of things in memory. -/
import Derived.Test.YthkehkmnfaaagaaVsG
set_option linter.unusedVariables false
set_option linter.unusedSimpArgs false
namespace Go.Vit
def blkOf : AV → List Nat
  | .slice b _ _ _ => [b]
  | _ => []
def OwnS (k : Nat) (σ : Mem) (v : AV) (cs : List AV) (n : Nat) : Prop :=
  (v = .nils ∧ n = 0 ∧ cs = []) ∨ ∃ b, v = .slice b 0 n (.op k) ∧ σ.get b = some (.rw cs) ∧ cs.length = n * k
theorem OwnS.nil (k : Nat) (σ : Mem) : OwnS k σ .nils [] 0 := .inl ⟨rfl, rfl, rfl⟩
theorem OwnS.len {k n : Nat} {σ : Mem} {v : AV} {cs : List AV} (h : OwnS k σ v cs n) {K : Int → Prop} (hk : K (n : Nat)) : slenW v K := by
  rcases h with ⟨rfl, rfl, rfl⟩ | ⟨b, rfl, _⟩ <;> exact hk
theorem OwnS.length {k n : Nat} {σ : Mem} {v : AV} {cs : List AV} (h : OwnS k σ v cs n) : cs.length = n * k := by
  rcases h with ⟨rfl, rfl, rfl⟩ | ⟨b, rfl, _, h⟩
  · simp
  · exact h
theorem OwnS.keep {k n : Nat} {σ σ' : Mem} {v : AV} {cs : List AV} (h : OwnS k σ v cs n) (hb : ∀ b ∈ blkOf v, σ'.get b = σ.get b) : OwnS k σ' v cs n := by
  rcases h with h | ⟨b, rfl, hg, hl⟩
  · exact .inl h
  · exact .inr ⟨b, rfl, (hb b (by simp [blkOf])).trans hg, hl⟩
theorem OwnS.lt {k n : Nat} {σ : Mem} {v : AV} {cs : List AV} (h : OwnS k σ v cs n) (live : σ.Live) : ∀ b ∈ blkOf v, b < σ.next := by
  rcases h with ⟨rfl, _⟩ | ⟨b, rfl, hg, _⟩
  · intro b hb; simp [blkOf] at hb
  · intro c hc; simp [blkOf] at hc; subst hc; exact live.lt hg
theorem OwnS.one {k n : Nat} {σ : Mem} {v : AV} {cs : List AV} (h : OwnS k σ v cs n) : v.one = true := by
  rcases h with ⟨rfl, _⟩ | ⟨b, rfl, _⟩ <;> rfl
theorem OwnS.append {k bytes id n m : Nat} {σ : Mem} {v x : AV} {cs c : List AV} {K : AV → Mem → Prop} (h : OwnS k σ v cs n) (hx : ∀ K : Nat → List AV → Prop, K m c → srcW σ k x K) (hm : m = 0 → c = []) (hc : c.length = m * k)
    (h1 : c.all AV.one = true) (h2 : cs.all AV.one = true) (hr : (n + m) * bytes ≤ 140737488355328 ∧ n + m ≤ 9223372036854775806) (hid : id ∉ blkOf v)
    (hk : ∀ v' σ', OwnS k σ' v' (cs ++ c) (n + m) → σ'.next = σ.next → (∀ b, b ∉ blkOf v → b ≠ id → σ'.get b = σ.get b) → (∀ b ∈ blkOf v', b ∈ blkOf v ∨ b = id) → K v' σ') : apW k bytes id σ v x K := by
  unfold apW
  refine hx _ ⟨h1, ?_⟩
  rcases h with ⟨rfl, rfl, rfl⟩ | ⟨b, rfl, hg, hl⟩
  · refine ⟨fun e => ?_, fun e => ⟨by rw [Nat.zero_add] at hr; exact hr, ?_⟩⟩
    · subst e
      have := hm rfl
      subst this
      exact hk _ _ (.inl ⟨rfl, rfl, rfl⟩) rfl (fun _ _ _ => rfl) (fun b hb => .inl hb)
    · refine hk _ _ (.inr ⟨id, by simp, by simp [Mem.get_put_self], by simp [hc]⟩) rfl (fun b _ hb => Mem.get_put_ne _ hb _) (fun b hb => ?_)
      simp [blkOf] at hb; exact .inr hb
  · refine ⟨fun e => ?_, fun e => ?_⟩
    · subst e
      have := hm rfl
      subst this
      exact hk _ _ (.inr ⟨b, rfl, by simpa using hg, by simpa using hl⟩) rfl (fun _ _ _ => rfl) (fun b hb => .inl hb)
    · refine opt hg ?_
      refine ⟨⟨rfl, rfl, hl⟩, hr, h2, ?_⟩
      refine hk _ _ (.inr ⟨id, by simp, by simp [Mem.get_put_self], ?_⟩) rfl (fun b' hb' hb => ?_) (fun b hb => ?_)
      · rw [List.length_append, hl, hc, Nat.add_mul]
      · simp [blkOf] at hb'
        rw [Mem.get_put_ne _ hb, Mem.get_put_ne _ hb']
      · simp [blkOf] at hb; exact .inr hb
theorem src_new {σ : Mem} {k b n m : Nat} {c : Cap} {l : List AV} (h : σ.get b = some (.rw l)) (hl : l.length = m * k) (hn : n = m) (K : Nat → List AV → Prop) (hk : K m l) : srcW σ k (.slice b 0 n c) K := by
  subst hn
  refine opt (a := σ.cells b 0 (n * k)) (v := l) ?_ hk
  rw [Mem.cells_of h, if_pos (by omega), List.drop_zero, ← hl, List.take_length]
theorem src_str {σ : Mem} {s : ByteArray} (K : Nat → List AV → Prop) (hk : K s.size (bl (bytesL s))) : srcW σ 1 (.str s) K := ⟨rfl, hk⟩
theorem OwnS.bstr {σ : Mem} {v : AV} {l : List UInt8} {n : Nat} {K : ByteArray → Prop} (h : OwnS 1 σ v (bl l) n) (hk : K ⟨l.toArray⟩) : bstrW σ v K := by
  rcases h with ⟨rfl, _, h⟩ | ⟨b, rfl, hg, hl⟩
  · have : l = [] := by simpa [bl] using h
    subst this; exact hk
  · exact bstr_bl hg (by rw [bl_length] at hl; omega) hk
structure Grow (o o' : List Nat) (σ σ' : Mem) : Prop where
  only : Mem.Only o σ σ'
  new : ∀ b ∈ o', b ∈ o ∨ σ.next ≤ b
  lt : ∀ b ∈ o', b < σ'.next
theorem Grow.refl {o : List Nat} {σ : Mem} (h : ∀ b ∈ o, b < σ.next) : Grow o o σ σ := ⟨.refl _ _, fun _ hb => .inl hb, h⟩
theorem Grow.trans {o o' o'' : List Nat} {σ σ' σ'' : Mem} (h : Grow o o' σ σ') (h' : Grow o' o'' σ' σ'') : Grow o o'' σ σ'' := by
  refine ⟨⟨Nat.le_trans h.only.next h'.only.next, fun b hb hn => ?_⟩, fun b hb => ?_, h'.lt⟩
  · refine (h'.only.get b (Nat.lt_of_lt_of_le hb h.only.next) fun hm => ?_).trans (h.only.get b hb hn)
    rcases h.new b hm with h1 | h1
    · exact hn h1
    · omega
  · rcases h'.new b hb with h1 | h1
    · exact h.new b h1
    · exact .inr (Nat.le_trans h.only.next h1)
theorem Grow.bump {o o' : List Nat} {σ σ' : Mem} (h : Grow o o' σ σ') (n : Nat) : Grow o o' σ (σ'.bump n) := ⟨h.only.bump n, h.new, fun b hb => Nat.lt_of_lt_of_le (h.lt b hb) (Nat.le_add_right _ _)⟩
theorem Grow.ob {o o' : List Nat} {σ σ' : Mem} {n : Nat} (h : Grow o o' (σ.bump n) σ') : Grow o o' σ σ' := ⟨h.only.ob, fun b hb => (h.new b hb).imp id fun h => Nat.le_trans (Nat.le_add_right _ _) h, h.lt⟩
theorem Grow.then {o o' : List Nat} {σ σ' σ'' : Mem} (h : Grow o o' σ σ') (h' : σ'.Same σ'') : Grow o o' σ σ'' := ⟨h.only.then h', h.new, fun b hb => Nat.lt_of_lt_of_le (h.lt b hb) h'.next⟩
theorem Grow.apart {o o' p : List Nat} {σ σ' : Mem} (h : Grow o o' σ σ') (hp : ∀ b ∈ p, b < σ.next ∧ b ∉ o) : (∀ b ∈ p, b < σ'.next ∧ b ∉ o') ∧ ∀ b ∈ p, σ'.get b = σ.get b := by
  refine ⟨fun b hb => ⟨Nat.lt_of_lt_of_le (hp b hb).1 h.only.next, fun hm => ?_⟩, fun b hb => h.only.get b (hp b hb).1 (hp b hb).2⟩
  have := hp b hb
  rcases h.new b hm with h1 | h1
  · exact this.2 h1
  · omega
end Go.Vit
