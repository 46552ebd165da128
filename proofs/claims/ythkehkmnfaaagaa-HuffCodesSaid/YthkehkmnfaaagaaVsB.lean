/- The operations of the printed conditions: each asks what the abstract operation asks. -/
import Derived.Test.YthkehkmnfaaagaaVsA
set_option linter.unusedVariables false
set_option linter.unusedSimpArgs false
namespace Go.Vit
def boxW (v : AV) (X : Prop) : Prop :=
  match v with
  | .agg l => l.all AV.one = true ∧ X
  | .tup _ => False
  | _ => X
def keyW (kk : Bool) (k : AV) (X : Prop) : Prop := ifB (isKey kk k) X False
/-- The operations that change nothing that was there. -/
def nopS (id : Nat) (op : AOp) (t : Tmps) (σ : Mem) (K : AV → Prop) (B : AV → Blk → Prop) : Prop :=
  match op with
  | .mov x => evW x t K
  | .pick c a b => evW c t fun cv => (match cv with
    | .bool r => ifB r (evW a t K) (evW b t K)
    | _ => False)
  | .alloc z => B (.ptr id 0) (.rw z)
  | .box x => evW x t fun v => boxW v (B (.ptr id 0) (.rw v.cells))
  | .build z ps => fillS z.length t z ps fun l => K (.agg l)
  | .newSlice n z ps => fillS z.length t z ps fun l => B (.slice id 0 n (.ex n)) (.rw l)
  | .load k x => evW x t fun v => (match k with
    | none => ldW σ v K
    | some n => ldnW n σ v K)
  | .nilchk x => evW x t fun v => nchkW v K
  | .bin op e x y => evW x t fun a => evW y t fun b => bin2S op e a b y.lit K
  | .un op x => evW x t fun a => unS op a K
  | .conv c x => evW x t fun a => (match c with
    | .toInt k => (match a with
      | .int _ n => wrW k n fun c => K (.int k c)
      | _ => False)
    | .strBytes => (match a with
      | .str s => sbytesW s (B (.slice id 0 s.size (.op 1)) (.rw (bytesOf s)))
      | _ => False)
    | .bytesStr => bstrW σ a fun s => K (.str s)
    | .same => (match a with
      | .str s => K (.str s)
      | _ => False))
  | .mkFn f xs => evsW xs t fun l => K (.func f l)
  | .mkMap => B (.map id) (.map [] 0)
  | .make bytes size z n c => evW n t fun nv => evW c t fun cv => (match nv with
    | .int _ n => (match cv with
      | .int _ c => ifB (Nat.beq z.length size) (makeW bytes n c (B (.slice id 0 n.toNat (.ex c.toNat)) (.rw (repl c.toNat z)))) False
      | _ => False)
    | _ => False)
  | .slStr x lo hi => evW x t fun a => evoS lo t fun l => evoS hi t fun h => (match a with
    | .str s => subW s (orD 0 l) (orD s.size h) fun r => K (.str r)
    | _ => False)
  | .slSl size x lo hi mx => evW x t fun a => evoS lo t fun l => evoS hi t fun h => (match mx with
    | none => slcW size a l h K
    | some mx => evoS (some mx) t fun m => (match h with
      | some h => (match m with
        | some m => slc3W size a l h m K
        | none => False)
      | none => False))
  | .slArr len size x lo hi => evW x t fun a => evoS lo t fun l => evoS hi t fun h => slaW len size a l h K
  | .faddr off x => evW x t fun v => fldW off v K
  | .field off k x => evW x t fun v => aggW off k v K
  | .iaddrS size x i => evW x t fun v => evW i t fun iv => (match iv with
    | .int _ j => idxW size v j K
    | _ => False)
  | .iaddrA len size x i => evW x t fun v => evW i t fun iv => (match iv with
    | .int _ j => idxAW len size v j K
    | _ => False)
  | .idxStr x i => evW x t fun v => evW i t fun iv => (match v with
    | .str s => (match iv with
      | .int _ j => sidxW s j fun c => K (.int .u8 c)
      | _ => False)
    | _ => False)
  | .idxArr len size k x i => evW x t fun v => evW i t fun iv => (match iv with
    | .int _ j => aidxW len size k v j K
    | _ => False)
  | .extract x i => evW x t fun v => tupW v i K
  | .len q x => evW x t fun v => (match q with
    | true => (match v with
      | .str s => K (.int .i64 s.size)
      | _ => False)
    | false => slenW v fun n => K (.int .i64 n))
  | .lenArr n => K (.int .i64 n)
  | .lenMap x => evW x t fun v => mlenW σ v fun n => K (.int .i64 n)
  | .lookup kk z ok x k => evW x t fun v => evW k t fun kv => keyW kk kv (lookW σ z ok v kv K)
  | .minmax mx x xs => evW x t fun v => evsW xs t fun l => mmW mx v l K
  | _ => False
theorem bounds3_of {len cap : Nat} {lo : Option AV} {lo' : Option Int} {k k' : IntKind} {hi mx : Int} (hl : (lo = none ∧ lo' = none) ∨ ∃ k n, lo = some (.int k n) ∧ lo' = some n)
    (h0 : 0 ≤ orD 0 lo') (h1 : orD 0 lo' ≤ hi) (h2 : hi ≤ mx) (h3 : mx ≤ cap) : sliceBoundsA len cap lo (some (.int k hi)) (some (.int k' mx)) = some ((orD 0 lo').toNat, hi.toNat, mx.toNat) := by
  unfold sliceBoundsA
  rcases hl with ⟨rfl, rfl⟩ | ⟨k', m, rfl, rfl⟩ <;> simp only [orD] at h0 h1 ⊢ <;> simp only [bnd, AV.asI, Option.bind_some]
  · rw [if_pos ⟨by omega, h3⟩]; simp only [Option.bind_some]; rw [if_pos ⟨by omega, by omega⟩]; simp
  · rw [if_pos ⟨by omega, h3⟩]; simp only [Option.bind_some]; rw [if_pos ⟨by omega, by omega⟩]; simp only [Option.bind_some]; rw [if_pos ⟨by omega, by omega⟩]; simp
theorem weak {o : Option AV} {o' : Option Int} {x : Option AOpd} (h : (o = none ∧ o' = none ∧ x = none) ∨ ∃ k n, o = some (.int k n) ∧ o' = some n) : (o = none ∧ o' = none) ∨ ∃ k n, o = some (.int k n) ∧ o' = some n :=
  h.imp_left fun h => ⟨h.1, h.2.1⟩
theorem evo_none (t : Tmps) : evo t none = some none := rfl
theorem nopS_spec {id : Nat} {op : AOp} {t : Tmps} {σ : Mem} {K : AV → Prop} {B : AV → Blk → Prop} (h : nopS id op t σ K B) : ∃ r, nop id op t σ = some r ∧ onW K B r.1 r.2 := by
  cases op <;> simp only [nopS] at h <;> simp only [nop]
  case mov x => exact okEv h fun v h => ⟨(_, _), rfl, h⟩
  case pick c a b =>
    refine okEv h fun v h => ?_
    cases v <;> first | exact h.elim | skip
    rename_i r
    cases r
    · exact okEv h fun v h => ⟨(_, _), rfl, h⟩
    · exact okEv h fun v h => ⟨(_, _), rfl, h⟩
  case alloc z => exact ⟨(_, _), rfl, h⟩
  case box x =>
    refine okEv h fun v h => ?_
    have : v.cells.all AV.one = true ∧ B (.ptr id 0) (.rw v.cells) := by
      cases v <;> first | exact h | exact h.elim | exact ⟨rfl, h⟩
    exact ⟨(_, some _), by rw [if_pos this.1], this.2⟩
  case build z ps =>
    obtain ⟨l, hl, h⟩ := fillS_spec rfl h
    exact ⟨(_, none), by rw [hl]; rfl, h⟩
  case newSlice n z ps =>
    obtain ⟨l, hl, h⟩ := fillS_spec rfl h
    exact ⟨(_, some _), by rw [hl]; rfl, h⟩
  case load k x =>
    refine okEv h fun v h => ?_
    cases k with
    | none =>
      unfold ldW at h
      cases v <;> first | exact h.elim | skip
      obtain ⟨a, ha, h⟩ := optW_spec h
      exact ⟨(_, none), by dsimp only; rw [cell_cells ha]; rfl, h⟩
    | some n =>
      simp only [ldnW] at h
      cases v <;> first | exact h.elim | skip
      obtain ⟨c, hc, h⟩ := optW_spec h
      exact ⟨(_, none), by dsimp only; rw [hc]; rfl, h⟩
  case nilchk x =>
    refine okEv h fun v h => ?_
    cases v <;> first | exact h.elim | exact ⟨(_, _), rfl, h⟩
  case bin op e x y =>
    obtain ⟨a, ha, h⟩ := evW_spec h
    obtain ⟨b, hb, h⟩ := evW_spec h
    obtain ⟨v, hv, h⟩ := bin2S_spec hb h
    exact ⟨(v, none), by simp only [ha, hb, Option.bind_some, hv], h⟩
  case un op x => exact okEv h fun a h => okBind (unS_spec h) fun v h => ⟨(_, _), rfl, h⟩
  case conv c x =>
    refine okEv h fun a h => ?_
    cases c
    case toInt k => cases a <;> first | exact h.elim | exact ⟨_, rfl, h⟩
    case strBytes =>
      cases a <;> first | exact h.elim | skip
      exact ⟨(_, some _), by dsimp only; rw [if_pos (by have := h.1; omega)], h.2⟩
    case bytesStr =>
      cases a <;> first | exact h.elim | skip
      · exact ⟨(_, _), rfl, h⟩
      · obtain ⟨r, hr, h⟩ := optW_spec h
        simp only [Option.bind_eq_some_iff] at hr
        obtain ⟨l, hl, hr⟩ := hr
        exact ⟨(_, none), by simp only [hl, Option.bind_some, hr], h⟩
    case same => cases a <;> first | exact h.elim | exact ⟨(_, _), rfl, h⟩
  case mkFn f xs => exact okEvs h fun v h => ⟨(_, _), rfl, h⟩
  case mkMap => exact ⟨(_, _), rfl, h⟩
  case make bytes size z n c =>
    refine okEv h fun nv h => okEv h fun cv h => ?_
    cases nv <;> first | exact h.elim | skip
    cases cv <;> first | exact h.elim | skip
    obtain ⟨h1, h2, h⟩ := ifB_and h
    refine ⟨(_, some _), by dsimp only [AV.asI, Option.bind_some]; rw [if_pos ⟨h2.1, h2.2.1, h2.2.2.2, by simpa using h2.2.2.1, Nat.eq_of_beq_eq_true h1⟩], ?_⟩
    rw [← repl_eq]; exact h
  case slStr x lo hi =>
    refine okEv h fun a h => ?_
    obtain ⟨l, l', hl, hl', h⟩ := evoS_spec h
    obtain ⟨u, u', hu, hu', h⟩ := evoS_spec h
    cases a <;> first | exact h.elim | skip
    obtain ⟨⟨h1, h2, h3⟩, h⟩ := h
    exact ⟨(_, none), by simp only [hl, hu, Option.bind_some, bounds_of (weak hl') (weak hu') h1 h2 h3], h⟩
  case slSl size x lo hi mx =>
    refine okEv h fun a h => ?_
    obtain ⟨l, l', hl, hl', h⟩ := evoS_spec h
    obtain ⟨u, u', hu, hu', h⟩ := evoS_spec h
    cases mx with
    | none =>
      cases a <;> first | exact h.elim | skip
      · obtain ⟨⟨h1, h2, h3⟩, h⟩ := h
        exact ⟨(_, none), by simp only [hl, hu, Option.bind_some, evo_none, bounds_of (weak hl') (weak hu') h1 h2 h3], h⟩
      · obtain ⟨⟨h0, h1, h2, h3⟩, h⟩ := h
        refine ⟨(_, none), by simp only [hl, hu, Option.bind_some, evo_none, h0, if_true, bounds_of (weak hl') (weak hu') h1 h2 h3]; rfl, h⟩
    | some mx =>
      obtain ⟨m, m', hm, hm', h⟩ := evoS_spec h
      cases u' <;> cases m' <;> first | exact h.elim | skip
      rename_i u' m'
      rcases hu' with ⟨_, e, _⟩ | ⟨ku, nu, rfl, e⟩
      · cases e
      rcases hm' with ⟨_, e', _⟩ | ⟨km, nm, rfl, e'⟩
      · cases e'
      cases e; cases e'
      cases a <;> first | exact h.elim | skip
      obtain ⟨⟨h0, h1, h2, h3, h4⟩, h⟩ := h
      exact ⟨(_, none), by simp only [hl, hu, hm, Option.bind_some, h0, if_true, bounds3_of (weak hl') h1 h2 h3 h4]; rfl, h⟩
  case slArr len size x lo hi =>
    refine okEv h fun a h => ?_
    obtain ⟨l, l', hl, hl', h⟩ := evoS_spec h
    obtain ⟨u, u', hu, hu', h⟩ := evoS_spec h
    cases a <;> first | exact h.elim | skip
    obtain ⟨⟨h1, h2, h3⟩, h⟩ := h
    exact ⟨(_, none), by simp only [hl, hu, Option.bind_some, bounds_of (weak hl') (weak hu') h1 h2 h3], h⟩
  case faddr off x =>
    refine okEv h fun v h => ?_
    cases v <;> first | exact h.elim | exact ⟨(_, _), rfl, h⟩
  case field off k x =>
    refine okEv h fun v h => ?_
    cases v <;> first | exact h.elim | skip
    obtain ⟨r, hr, h⟩ := optW_spec h
    exact ⟨(_, none), by simp only [hr, Option.bind_some], h⟩
  case iaddrS size x i =>
    refine okEv h fun v h => okEv h fun iv h => ?_
    cases iv <;> first | exact h.elim | skip
    cases v <;> first | exact h.elim | skip
    exact ⟨(_, none), by dsimp only [AV.asI, Option.bind_some]; rw [if_pos h.1], h.2⟩
  case iaddrA len size x i =>
    refine okEv h fun v h => okEv h fun iv h => ?_
    cases iv <;> first | exact h.elim | skip
    cases v <;> first | exact h.elim | skip
    exact ⟨(_, none), by dsimp only [AV.asI, Option.bind_some]; rw [if_pos h.1], h.2⟩
  case idxStr x i =>
    refine okEv h fun v h1 => okEv h1 fun iv h2 => ?_
    cases v <;> first | exact h2.elim | skip
    cases iv <;> first | exact h2.elim | skip
    rename_i s k j
    obtain ⟨⟨h0, h1⟩, h⟩ := h2
    have hc := byteAt_get (s := s) (i := j.toNat) (by omega)
    have hb : byteAt s j.toNat = (UInt8.ofNat (byteAt s j.toNat)).toNat := by
      have := byteAt_lt s j.toNat
      rw [UInt8.toNat_ofNat']; omega
    unfold bytesL at hc
    exact ⟨(_, none), by dsimp only [AV.asI, Option.bind_some]; rw [if_pos h0, hc]; rfl, by rw [← hb]; exact h⟩
  case idxArr len size k x i =>
    refine okEv h fun v h => okEv h fun iv h => ?_
    cases iv <;> first | exact h.elim | skip
    cases v <;> first | exact h.elim | skip
    obtain ⟨h0, h⟩ := h
    obtain ⟨r, hr, h⟩ := optW_spec h
    exact ⟨(_, none), by dsimp only [AV.asI, Option.bind_some]; rw [if_pos h0, hr]; rfl, h⟩
  case extract x i =>
    refine okEv h fun v h => ?_
    cases v <;> first | exact h.elim | skip
    obtain ⟨r, hr, h⟩ := optW_spec h
    exact ⟨(_, none), by simp only [hr, Option.bind_some], h⟩
  case len q x =>
    refine okEv h fun v h => ?_
    cases q
    · simp only [slenW] at h
      cases v <;> first | exact h.elim | exact ⟨(_, _), rfl, h⟩
    · cases v <;> first | exact h.elim | exact ⟨(_, _), rfl, h⟩
  case lenArr n => exact ⟨(_, _), rfl, h⟩
  case lenMap x =>
    refine okEv h fun v h => ?_
    cases v <;> first | exact h.elim | skip
    · exact ⟨(_, _), rfl, h⟩
    · obtain ⟨q, hg, h⟩ := optW_spec h
      cases q <;> first | exact h.elim | skip
      exact ⟨(_, none), by simp only [hg, Option.bind_some], h⟩
  case lookup kk z ok x k =>
    refine okEv h fun v h => okEv h fun kv h => ?_
    obtain ⟨hk, h⟩ := ifB_and h
    rw [hk]
    simp only [Bool.not_true, Bool.false_eq_true, if_false]
    cases v <;> first | exact h.elim | skip
    · refine ⟨(if ok then .tup [z, .bool false] else z, none), ?_, h⟩
      simp [findK]
    · obtain ⟨q, hg, h⟩ := optW_spec h
      cases q <;> first | exact h.elim | skip
      obtain ⟨r, hf, h⟩ := optW_spec h
      cases r with
      | some i =>
        obtain ⟨e, he, h⟩ := optW_spec h
        refine ⟨(if ok then .tup [e.2.1, .bool true] else e.2.1, none), ?_, h⟩
        simp [hg, hf, he]
      | none =>
        refine ⟨(if ok then .tup [z, .bool false] else z, none), ?_, h⟩
        simp [hg, hf]
  case minmax mx x xs =>
    refine okEv h fun v h => okEvs h fun l h => ?_
    obtain ⟨r, hr, h⟩ := mmW_spec h
    exact ⟨(_, none), by simp only [hr, Option.bind_some], h⟩

/-! ### What changes memory -/
def stW (n : Nat) (σ : Mem) (a v : AV) (K : Mem → Prop) : Prop :=
  match a with
  | .ptr b o => optW (σ.get b) fun q => (match q with
    | .rw c => cellOkW v n (o + n ≤ c.length ∧ K (σ.put b (some (.rw (setAt c o v.cells)))))
    | _ => False)
  | _ => False
def apW (size bytes id : Nat) (σ : Mem) (sv xv : AV) (K : AV → Mem → Prop) : Prop :=
  srcW σ size xv fun m c => c.all AV.one = true ∧ (match sv with
    | .nils => (m = 0 → K .nils σ) ∧ (m ≠ 0 → roomy m bytes ∧ K (.slice id 0 m (.op size)) (σ.put id (some (.rw c))))
    | .slice b o n q => (m = 0 → K (.slice b o n q) σ) ∧ (m ≠ 0 → (match q with
        | .ex k => (n + m ≤ k → optW (σ.get b) fun q => (match q with
            | .rw l => o + (n + m) * size ≤ l.length ∧ K (.slice b o (n + m) (.ex k)) (σ.put b (some (.rw (setAt l (o + n * size) c))))
            | _ => False)) ∧
            (k < n + m → roomy (n + m) bytes ∧ optW (σ.cells b o (n * size)) fun l =>
              l.all AV.one = true ∧ K (.slice id 0 (n + m) (.op size)) (σ.put id (some (.rw (l ++ c)))))
        | .op s => optW (σ.get b) fun q => (match q with
          | .rw l => (s = size ∧ o = 0 ∧ l.length = n * size) ∧ roomy (n + m) bytes ∧ l.all AV.one = true ∧
            K (.slice id 0 (n + m) (.op size)) ((σ.put b none).put id (some (.rw (l ++ c))))
          | _ => False)))
    | _ => False)
def cpW (size : Nat) (σ : Mem) (dv sv : AV) (K : Int → Mem → Prop) : Prop :=
  match dv with
  | .nils => (match sv with
    | .nils => True
    | .slice .. => True
    | .str _ => size = 1
    | _ => False) ∧ K 0 σ
  | .slice b o n _ => (match sv with
    | .nils => K 0 σ
    | .slice b' o' m _ => optW (σ.cells b' o' (Nat.min m n * size)) fun l => (Nat.min m n = 0 → K 0 σ) ∧
        (Nat.min m n ≠ 0 → optW (σ.get b) fun q => (match q with
          | .rw c => (o + l.length ≤ c.length ∧ l.all AV.one = true) ∧ K (Nat.min m n : Nat) (σ.put b (some (.rw (setAt c o l))))
          | _ => False))
    | .str s => size = 1 ∧ (Nat.min s.size n = 0 → K 0 σ) ∧
        (Nat.min s.size n ≠ 0 → optW (σ.get b) fun q => (match q with
          | .rw c => o + Nat.min s.size n ≤ c.length ∧ K (Nat.min s.size n : Nat) (σ.put b (some (.rw (setAt c o ((bytesOf s).take (Nat.min s.size n))))))
          | _ => False))
    | _ => False)
  | _ => False
/-- A map's entries. -/
def mapW (σ : Mem) (m : AV) (K : Nat → List (AV × AV × Nat) → Nat → Prop) : Prop :=
  match m with
  | .map b => optW (σ.get b) fun q => (match q with
    | .map es clock => K b es clock
    | _ => False)
  | _ => False
theorem mapW_spec {σ : Mem} {m : AV} {K : Nat → List (AV × AV × Nat) → Nat → Prop} (h : mapW σ m K) : ∃ b es clock, m = .map b ∧ σ.get b = some (.map es clock) ∧ K b es clock := by
  unfold mapW at h
  split at h
  · obtain ⟨q, hq, h⟩ := optW_spec h
    cases q <;> first | exact h.elim | skip
    exact ⟨_, _, _, rfl, hq, h⟩
  · exact h.elim
def mupW (σ : Mem) (m k v : AV) (K : Mem → Prop) : Prop :=
  mapW σ m fun b es clock => optW (findK k es) fun r => (match r with
    | some i => K (σ.put b (some (.map (es.modify i fun e => (k, v, e.2.2)) clock)))
    | none => K (σ.put b (some (.map (es ++ [(k, v, clock)]) (clock + 1)))))
def mentW (σ : Mem) (z m k : AV) (K : AV → Mem → Prop) : Prop :=
  mapW σ m fun b es clock => optW (findK k es) fun r => (match r with
    | some i => optW es[i]? fun e => K (.tup [e.2.1, .int .i64 e.2.2]) (σ.put b (some (.map (es.modify i fun e => (k, e.2)) clock)))
    | none => K (.tup [z, .int .i64 clock]) (σ.put b (some (.map (es ++ [(k, z, clock)]) (clock + 1)))))
def mestW (σ : Mem) (m : AV) (j : Int) (v : AV) (K : Mem → Prop) : Prop :=
  mapW σ m fun b es clock => optW (es.findIdx? (fun e => (e.2.2 : Int) == j)) fun i =>
    K (σ.put b (some (.map (es.modify i fun e => (e.1, v, e.2.2)) clock)))
def mdelW (σ : Mem) (m k : AV) (K : Mem → Prop) : Prop :=
  match m with
  | .nilm => K σ
  | m => mapW σ m fun b es clock => optW (findK k es) fun r => (match r with
    | some i => K (σ.put b (some (.map (es.eraseIdx i) clock)))
    | none => K σ)
def eopS (id : Nat) (op : AOp) (t : Tmps) (σ : Mem) (K : AV → Mem → Prop) : Prop :=
  match op with
  | .store n a x => evW a t fun av => evW x t fun v => stW n σ av v fun σ' => K (.tup []) σ'
  | .append size bytes s x => evW s t fun sv => evW x t fun xv => apW size bytes id σ sv xv K
  | .copy size d s => evW d t fun dv => evW s t fun sv => cpW size σ dv sv fun n σ' => K (.int .i64 n) σ'
  | .mapUpd kk m k x => evW m t fun mv => evW k t fun kv => evW x t fun v => keyW kk kv (mupW σ mv kv v fun σ' => K (.tup []) σ')
  | .mapEnt kk z m k => evW m t fun mv => evW k t fun kv => keyW kk kv (mentW σ z mv kv K)
  | .entSt m s x => evW m t fun mv => evW s t fun sv => evW x t fun v => (match sv with
    | .int _ j => mestW σ mv j v fun σ' => K (.tup []) σ'
    | _ => False)
  | .del kk m k => evW m t fun mv => evW k t fun kv => keyW kk kv (mdelW σ mv kv fun σ' => K (.tup []) σ')
  | _ => False
theorem eopS_spec {id : Nat} {op : AOp} {t : Tmps} {σ : Mem} {K : AV → Mem → Prop} (h : eopS id op t σ K) : ∃ r, eop id op t σ = some r ∧ K r.1 r.2 := by
  cases op <;> simp only [eopS] at h
  case store n a x =>
    simp only [eop]
    refine okEv h fun av h => okEv h fun v h => ?_
    simp only [stW] at h
    cases av <;> first | exact h.elim | skip
    obtain ⟨q, hc, h⟩ := optW_spec h
    cases q <;> first | exact h.elim | skip
    obtain ⟨⟨h1, h2⟩, h3, h⟩ := cellOkW_spec h
    exact ⟨(_, _), by simp only [hc]; rw [if_pos ⟨h1, h3, h2⟩]; rfl, h⟩
  case append size bytes s x => exact eopW_spec (op := .append size bytes s x) h
  case copy size d s =>
    refine eopW_spec (op := .copy size d s) ?_
    simp only [eopW]
    obtain ⟨dv, hd, h⟩ := evW_spec h
    obtain ⟨sv, hs, h⟩ := evW_spec h
    have ev : ∀ {x : AOpd} {v : AV} {k : AV → Prop}, x.ev t = some v → k v → evW x t k := by
      intro x v k hx hk
      cases x with
      | tmp i => simp only [AOpd.ev] at hx; simp only [evW, hx]; exact hk
      | const c => simp only [AOpd.ev, Option.some.injEq] at hx; subst hx; exact hk
      | glob g => simp only [AOpd.ev, Option.some.injEq] at hx; subst hx; exact hk
    exact ev hd (ev hs h)
  case mapUpd kk m k x =>
    simp only [eop]
    refine okEv h fun mv h => okEv h fun kv h => okEv h fun v h => ?_
    obtain ⟨hk, h⟩ := ifB_and h
    rw [hk]
    simp only [Bool.not_true, Bool.false_eq_true, if_false]
    obtain ⟨b, es, clock, rfl, hg, h⟩ := mapW_spec h
    obtain ⟨r, hr, h⟩ := optW_spec h
    cases r with
    | some i => exact ⟨(_, _), by simp only [hg, hr, Option.bind_some]; rfl, h⟩
    | none => exact ⟨(_, _), by simp only [hg, hr, Option.bind_some]; rfl, h⟩
  case mapEnt kk z m k =>
    simp only [eop]
    refine okEv h fun mv h => okEv h fun kv h => ?_
    obtain ⟨hk, h⟩ := ifB_and h
    rw [hk]
    simp only [Bool.not_true, Bool.false_eq_true, if_false]
    obtain ⟨b, es, clock, rfl, hg, h⟩ := mapW_spec h
    obtain ⟨r, hr, h⟩ := optW_spec h
    cases r with
    | some i =>
      obtain ⟨e, he, h⟩ := optW_spec h
      exact ⟨(_, _), by simp only [hg, hr, he, Option.bind_some]; rfl, h⟩
    | none => exact ⟨(_, _), by simp only [hg, hr, Option.bind_some]; rfl, h⟩
  case entSt m s x =>
    simp only [eop]
    refine okEv h fun mv h => okEv h fun sv h => okEv h fun v h => ?_
    cases sv <;> first | exact h.elim | skip
    obtain ⟨b, es, clock, rfl, hg, h⟩ := mapW_spec h
    obtain ⟨i, hi, h⟩ := optW_spec h
    exact ⟨(_, _), by simp only [AV.asI, hg, hi, Option.bind_some]; rfl, h⟩
  case del kk m k =>
    simp only [eop]
    refine okEv h fun mv h => okEv h fun kv h => ?_
    obtain ⟨hk, h⟩ := ifB_and h
    rw [hk]
    simp only [Bool.not_true, Bool.false_eq_true, if_false]
    unfold mdelW at h
    split at h
    · exact ⟨(_, _), rfl, h⟩
    · obtain ⟨b, es, clock, rfl, hg, h⟩ := mapW_spec h
      obtain ⟨r, hr, h⟩ := optW_spec h
      cases r with
      | some i => exact ⟨(_, _), by simp only [hg, hr, Option.bind_some]; rfl, h⟩
      | none => exact ⟨(_, _), by simp only [hg, hr, Option.bind_some], h⟩
end Go.Vit
