/- Each operation that changes nothing that was there: the model's run of it stands for the abstract one. Part 4. -/
import Derived.Test.YthkehkmnfaaagaaVitF
set_option linter.unusedVariables false
set_option linter.unusedSimpArgs false
namespace Go.Vit
section
variable {P : Program} {w : World} {ρ : Ren} {σ : Mem} {t : Tmps} {η : Operand → Value} {id : Nat} {v : AV} {ob : Option Blk} {op : AOp}

theorem VRel.ptr_inv {b o : Nat} {v : Value} (h : VRel ρ (.ptr b o) v) : ∃ b' o' m, ρ b = some (b', o', m) ∧ v = .pointer (some ⟨b', o' + o, none⟩) := by cases h; rename_i h; exact ⟨_, _, _, h, rfl⟩
theorem VRel.slice_inv {b o n : Nat} {c : Cap} {v : Value} (h : VRel ρ (.slice b o n c) v) : ∃ b' o' m cap a, ρ b = some (b', o', m) ∧ v = .slice (some a) n cap ∧ n ≤ cap ∧ (∀ k, c = .ex k → cap = k) ∧ (∀ s, c = .op s → s ≠ 0 → o' + o + cap * s ≤ m) ∧ (cap = 0 ∨ a = ⟨b', o' + o, none⟩) := by
  cases h with | slice h1 h2 h3 h4 h5 => exact ⟨_, _, _, _, _, h1, rfl, h2, h3, h4, h5⟩
theorem VRel.nils_inv {v : Value} (h : VRel ρ .nils v) : v = .slice none 0 0 := by cases h; rfl
theorem VRel.agg_inv {l : List AV} {v : Value} (h : VRel ρ (.agg l) v) : ∃ cs, v = .agg cs ∧ LRel ρ l cs := by cases h; rename_i h1 h2; exact ⟨_, rfl, h1, h2⟩
theorem VRel.tup_inv {l : List AV} {v : Value} (h : VRel ρ (.tup l) v) : ∃ cs, v = .tuple cs ∧ LRel ρ l cs := by cases h; rename_i h1 h2; exact ⟨_, rfl, h1, h2⟩
theorem VRel.map_inv {b : Nat} {v : Value} (h : VRel ρ (.map b) v) : ∃ b' o' m, ρ b = some (b', o', m) ∧ v = .map (some b') := by cases h; rename_i h; exact ⟨_, _, _, h, rfl⟩
theorem VRel.nilm_inv {v : Value} (h : VRel ρ .nilm v) : v = .map none := by cases h; rfl

theorem toBytes_rel : ∀ {l : List AV} {cs : List Value} {r : List UInt8}, toBytes l = some r → l.length = cs.length → (∀ (i : Nat) (a : AV) (v : Value), l[i]? = some a → cs[i]? = some v → VRel ρ a v) →
    ∃ ns : List Int, cs = ns.map (Value.int .u8) ∧ ns.map (fun n => UInt8.ofNat n.toNat) = r
  | [], [], r, h, _, _ => by simp [toBytes] at h; subst h; exact ⟨[], rfl, rfl⟩
  | [], _ :: _, _, _, hl, _ => by simp at hl
  | _ :: _, [], _, _, hl, _ => by simp at hl
  | a :: l, v :: cs, r, h, hl, hr => by
    unfold toBytes at h
    split at h
    · rename_i heq; cases heq
    · rename_i n l' heq
      cases heq
      simp only [Option.map_eq_some_iff] at h
      obtain ⟨r', hr', rfl⟩ := h
      obtain ⟨ns, h1, h2⟩ := toBytes_rel hr' (by simpa using hl) (fun i a v ha hv => hr (i + 1) a v (by simpa using ha) (by simpa using hv))
      have h0 := (hr 0 _ v rfl rfl).int_inv
      subst h0
      exact ⟨n :: ns, by simp [h1], by simp [h2]⟩
    · cases h

theorem push_bytes : ∀ (ns : List Int) (r : ByteArray), ns.foldl (fun r n => r.push (UInt8.ofNat n.toNat)) r = ⟨r.data ++ (ns.map fun n => UInt8.ofNat n.toNat).toArray⟩
  | [], r => by simp
  | n :: ns, r => by
    simp only [List.foldl_cons, List.map_cons]
    rw [push_bytes ns]
    simp [ByteArray.push]

theorem nop_conv {src dst : TypeId} {x : Operand} (hc : compOp P (.convert src dst x) = some op) (hn : nop id op t σ = some (v, ob)) (hE : HE η ρ t op.opds) (st : St ρ σ w) (hρ : ρ id = none) :
    NRun P η (.convert src dst x) w ρ id v ob := by
  simp only [compOp, Option.bind_eq_some_iff] at hc
  obtain ⟨s, hs, d, hd, a, ha, hc⟩ := hc
  split at hc
  · cases hc
    simp only [nop, Option.bind_eq_some_iff] at hn
    obtain ⟨av, hav, hn⟩ := hn
    cases av <;> simp only [reduceCtorEq, Option.some.injEq, Prod.mk.injEq] at hn
    obtain ⟨rfl, rfl⟩ := hn
    have e1 := (hE x a _ ha (by simp [AOp.opds]) hav).int_inv
    exact .val (v' := .int _ _) (fun _ _ _ _ _ => by simp only [execOp, convert, e1, Sem.run_bind, run_underlying hs, run_underlying hd, Result.andThen_ok, Conv.intToInt, Sem.run_pure]) (.int _ _)
  · cases hc
    simp only [nop, Option.bind_eq_some_iff] at hn
    obtain ⟨av, hav, hn⟩ := hn
    cases av <;> simp only [reduceCtorEq, Option.some.injEq, Prod.mk.injEq] at hn
    obtain ⟨rfl, rfl⟩ := hn
    have e1 := (hE x a _ ha (by simp [AOp.opds]) hav).str_inv
    exact .val (v' := .string _) (fun _ _ _ _ _ => by simp only [execOp, convert, e1, Sem.run_bind, run_underlying hs, run_underlying hd, Result.andThen_ok, Sem.run_pure]) (.str _)
  · rename_i e
    split at hc
    · rename_i he
      cases hc
      simp only [nop, Option.bind_eq_some_iff] at hn
      obtain ⟨av, hav, hn⟩ := hn
      cases av <;> simp only [reduceCtorEq] at hn
      rename_i s
      split at hn
      · rename_i hsz
        simp only [Option.some.injEq, Prod.mk.injEq] at hn
        obtain ⟨rfl, rfl⟩ := hn
        have e1 := (hE x a _ ha (by simp [AOp.opds]) hav).str_inv
        have hge : s.size ≤ grownCap w s.size 0 e := Nat.le_add_right _ _
        have hcapsz : grownCap w s.size 0 e ≤ s.data.size + (grownCap w s.size 0 e - s.size) := by show _ ≤ s.size + _; omega
        refine .mk (v' := .slice (some ⟨w.heap.size, 0, none⟩) s.size (grownCap w s.size 0 e))
          (w' := w.drew.alloc (.cells (bytesRow s (grownCap w s.size 0 e)) e ((bytesRow s (grownCap w s.size 0 e)).size, (bytesRow s (grownCap w s.size 0 e)).size + 1))) (fun _ _ _ _ _ => ?_)
          (.alloc hρ (.slice updR_self hge (fun k hk => by cases hk) (fun s' hs _ => by cases hs; simp [bytesRow]; exact hcapsz) (.inr rfl)) rfl ?_ ?_ ?_ rfl rfl rfl)
        · simp only [execOp, e1, Sem.run_bind, run_bytes_of_string w src dst e s hs hd he, Result.andThen_ok, Sem.run_pure]
        · have : s.data.size = s.size := rfl
          simp [bytesOf, bytesRow, this]
        · intro i hi; omega
        · intro i a ha
          simp only [bytesOf, List.getElem?_map, Option.map_eq_some_iff] at ha
          obtain ⟨c, hc, rfl⟩ := ha
          refine ⟨.int .u8 c.toNat, ?_, .int _ _⟩
          have hlt : i < s.data.size := by
            have := (List.getElem?_eq_some_iff.1 hc).1; simpa using this
          unfold bytesRow
          rw [Array.getElem?_append_left (by simpa using hlt), Array.getElem?_map]
          rw [Array.getElem?_toList] at hc
          rw [hc]; rfl
      · cases hn
    · cases hc
  · rename_i e
    split at hc
    · rename_i he
      cases hc
      simp only [nop, Option.bind_eq_some_iff] at hn
      obtain ⟨av, hav, hn⟩ := hn
      have h1 := hE x a av ha (by simp [AOp.opds]) hav
      cases av <;> simp only [reduceCtorEq] at hn
      case nils =>
        simp only [Option.some.injEq, Prod.mk.injEq] at hn
        obtain ⟨rfl, rfl⟩ := hn
        have e1 := h1.nils_inv
        exact .val (v' := .string .empty) (fun _ _ _ _ _ => by simp only [execOp, convert, e1, Sem.run_bind, run_underlying hs, run_underlying hd, run_underlying he, Result.andThen_ok, Conv.bytesToString, Sem.run_pure]) (.str _)
      case slice b o n c =>
        simp only [Option.bind_eq_some_iff, Option.some.injEq, Prod.mk.injEq] at hn
        obtain ⟨l, hl, r, hr, rfl, rfl⟩ := hn
        obtain ⟨b', o', _, cap, ad, hρb, e1, hncap, _, _, had⟩ := h1.slice_inv
        obtain ⟨hlen, cs, hcl, hcell, hrel⟩ := st.cells hl hρb
        obtain ⟨ns, hcs, hns⟩ := toBytes_rel hr (by rw [hlen, hcl]) hrel
        have hload : (loadCells ad n).run P w = .ok (ns.map (Value.int .u8)).toArray w := by
          rcases Nat.eq_zero_or_pos n with h0 | h0
          · subst h0
            have : ns = [] := by
              have := congrArg List.length hcs; rw [hcl] at this; simpa using this.symm
            subst this; simp [loadCells, loadCellsFrom]
          · have hcap : ad = ⟨b', o' + o, none⟩ := had.resolve_left (by omega)
            have := run_loadCells_list (P := P) w ad cs (fun j v hj => by rw [hcap, add_plain _ rfl]; exact hcell j v hj)
            rw [hcl, hcs] at this; exact this
        have hb := run_bytesToString (P := P) w ad n cap ns hload
        refine .val (v' := .string ⟨r.toArray⟩) (fun _ _ _ _ _ => ?_) (.str _)
        rw [push_bytes, hns] at hb
        have hb' : (Conv.bytesToString (.slice (some ad) n cap)).run P w = .ok (.string ⟨r.toArray⟩) w := by rw [hb]; congr 3; show (#[] ++ r.toArray) = r.toArray; simp
        simp only [execOp, convert, e1, Sem.run_bind, run_underlying hs, run_underlying hd, run_underlying he, Result.andThen_ok, hb', Sem.run_pure]
    · cases hc
  · cases hc

theorem nop_make {ty : TypeId} {n c : Operand} (hc : compOp P (.makeSlice ty n c) = some op) (hn : nop id op t σ = some (v, ob)) (hE : HE η ρ t op.opds) (hρ : ρ id = none) : NRun P η (.makeSlice ty n c) w ρ id v ob := by
  simp only [compOp, Option.bind_eq_some_iff] at hc
  obtain ⟨d, hd, hc⟩ := hc
  cases d <;> simp only [Option.bind_eq_some_iff, Option.map_eq_some_iff, reduceCtorEq] at hc
  rename_i e
  obtain ⟨i, hi, z, hz, n', hn', c', hc', rfl⟩ := hc
  obtain ⟨i', zv, hi', hzv, hzr, hz1⟩ := zeroOf_spec hz
  have ei : i = i' := by rw [hi] at hi'; cases hi'; rfl
  subst ei
  simp only [nop, Option.bind_eq_some_iff] at hn
  obtain ⟨nv, hnv, cv, hcv, x, hx, k, hk, hn⟩ := hn
  split at hn
  · rename_i hcond
    obtain ⟨c1, c2, c3, c4, c5⟩ := hcond
    simp only [Option.some.injEq, Prod.mk.injEq] at hn
    obtain ⟨rfl, rfl⟩ := hn
    obtain ⟨kn, e1⟩ := (hE n n' nv hn' (by simp [AOp.opds]) hnv).asI hx
    obtain ⟨kc, e2⟩ := (hE c c' cv hc' (by simp [AOp.opds]) hcv).asI hk
    have hr := run_make (P := P) w ty e i zv hd hi hzv kn kc x k c1 c2 (by omega) c3
    have hzz := replicate_getElem (hzr ρ) k.toNat
    rw [c5] at hzz
    refine .mk (v' := .slice (some ⟨w.heap.size, 0, none⟩) x.toNat k.toNat) (w' := w.alloc (.cells (madeCells zv.cells (k.toNat * i.size)) e)) (fun _ _ _ _ _ => by simp only [execOp, e1, e2, Sem.run_bind, hr, Result.andThen_ok, Sem.run_pure])
      (.alloc (cs := madeCells zv.cells (k.toNat * i.size)) (e := e) (fz := (0, 0)) hρ (.slice updR_self (by omega) (fun q hq => by cases hq; rfl) (fun s hs _ => by cases hs) (.inr rfl)) rfl ?_ (by simp) ?_ rfl rfl rfl)
    · exact Nat.le_of_eq hzz.1
    · exact fun i a ha => hzz.get ha
  · cases hn

theorem opdo_run {x : Option Operand} {a : Option AOpd} (h : opdo x = some a) {r : Option AV} (he : evo t a = some r) {as : List AOpd} (hs : ∀ y, a = some y → y ∈ as) (hE : HE η ρ t as) :
    (x = none ∧ r = none) ∨ ∃ y q, x = some y ∧ r = some q ∧ VRel ρ q (η y) := by
  cases x with
  | none => simp [opdo] at h; subst h; simp [evo] at he; exact .inl ⟨rfl, he.symm⟩
  | some y =>
    simp only [opdo, Option.map_eq_some_iff] at h
    obtain ⟨b, hb, rfl⟩ := h
    simp only [evo, Option.map_eq_some_iff] at he
    obtain ⟨q, hq, rfl⟩ := he
    exact .inr ⟨y, q, rfl, rfl, hE y b q hb (hs b rfl) hq⟩

end
end Go.Vit
