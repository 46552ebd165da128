/- Running closed code: an evaluator with fuel, and that what it comes to is what the code comes to. -/
import Derived.Test.YtgdaiahnceaieaaVm1
set_option linter.unusedVariables false
set_option linter.unusedSimpArgs false
namespace Go.Vit

mutual
def AV.eqb : AV → AV → Bool
  | .bool a, .bool b => a == b
  | .int k a, .int k' b => decide (k = k') && decide (a = b)
  | .str a, .str b => a.data.toList == b.data.toList
  | .nilp, .nilp => true
  | .ptr b o, .ptr b' o' => Nat.beq b b' && Nat.beq o o'
  | .nils, .nils => true
  | .slice b o n (.ex k), .slice b' o' n' (.ex k') => Nat.beq b b' && Nat.beq o o' && Nat.beq n n' && Nat.beq k k'
  | .slice b o n (.op k), .slice b' o' n' (.op k') => Nat.beq b b' && Nat.beq o o' && Nat.beq n n' && Nat.beq k k'
  | .nilm, .nilm => true
  | .map b, .map b' => Nat.beq b b'
  | .nilf, .nilf => true
  | .func f l, .func g m => Nat.beq f g && AV.eqbL l m
  | .agg l, .agg m => AV.eqbL l m
  | .tup l, .tup m => AV.eqbL l m
  | .nili, .nili => true
  | .iface t v, .iface t' v' => Nat.beq t t' && AV.eqb v v'
  | _, _ => false
def AV.eqbL : List AV → List AV → Bool
  | [], [] => true
  | a :: l, b :: m => AV.eqb a b && AV.eqbL l m
  | _, _ => false
end
theorem bytes_eq {a b : ByteArray} (h : a.data = b.data) : a = b := by
  cases a; cases b; simp at h; subst h; rfl
mutual
theorem AV.eqb_eq : ∀ (a b : AV), AV.eqb a b = true → a = b
  | .bool _, b, h => by cases b <;> simp_all [AV.eqb]
  | .int _ _, b, h => by cases b <;> simp_all [AV.eqb]
  | .str _, b, h => by
    cases b <;> simp [AV.eqb] at h
    rw [bytes_eq h]
  | .nilp, b, h => by cases b <;> simp_all [AV.eqb]
  | .ptr _ _, b, h => by cases b <;> simp_all [AV.eqb]
  | .nils, b, h => by cases b <;> simp_all [AV.eqb]
  | .slice _ _ _ c, b, h => by
    cases b
    case slice b' o' n' c' => cases c <;> cases c' <;> simp_all [AV.eqb]
    all_goals cases c <;> simp [AV.eqb] at h
  | .nilm, b, h => by cases b <;> simp_all [AV.eqb]
  | .map _, b, h => by cases b <;> simp_all [AV.eqb]
  | .nilf, b, h => by cases b <;> simp_all [AV.eqb]
  | .func f l, b, h => by
    cases b <;> simp [AV.eqb] at h
    rw [h.1, AV.eqbL_eq _ _ h.2]
  | .agg l, b, h => by
    cases b <;> simp [AV.eqb] at h
    rw [AV.eqbL_eq _ _ h]
  | .tup l, b, h => by
    cases b <;> simp [AV.eqb] at h
    rw [AV.eqbL_eq _ _ h]
  | .nili, b, h => by cases b <;> simp_all [AV.eqb]
  | .iface t v, b, h => by
    cases b <;> simp [AV.eqb] at h
    rw [h.1, AV.eqb_eq _ _ h.2]
theorem AV.eqbL_eq : ∀ (a b : List AV), AV.eqbL a b = true → a = b
  | [], b, h => by cases b <;> simp_all [AV.eqbL]
  | a :: l, b, h => by
    cases b with
    | nil => simp [AV.eqbL] at h
    | cons b m =>
      simp only [AV.eqbL, Bool.and_eq_true] at h
      rw [AV.eqb_eq _ _ h.1, AV.eqbL_eq _ _ h.2]
end

def sameRead (id : Nat) (q : AOp) (t : Tmps) (σ σ' : Mem) : Bool :=
  match nop id q t σ', nop id q t σ with
  | some (a, none), some (b, none) => AV.eqb a b
  | none, none => true
  | _, _ => false
theorem sameRead_eq {id : Nat} {q : AOp} {t : Tmps} {σ σ' : Mem} (h : sameRead id q t σ σ' = true) : nop id q t σ' = nop id q t σ := by
  unfold sameRead at h
  split at h
  · rename_i h1 h2
    rw [h1, h2, AV.eqb_eq _ _ h]
  · rename_i h1 h2; rw [h1, h2]
  · cases h
def floatsB (base : Nat) (t : Tmps) (σ σ' : Mem) : List (Nat × AOp) → Bool
  | [] => true
  | q :: r => sameRead (base + q.1) q.2 t σ σ' && floatsB base t σ σ' r
theorem floatsB_ok {base : Nat} {t : Tmps} {σ σ' : Mem} : ∀ {l : List (Nat × AOp)}, floatsB base t σ σ' l = true → Floats base t σ σ' l
  | [], _ => trivial
  | q :: r, h => by
    simp only [floatsB, Bool.and_eq_true] at h
    exact ⟨sameRead_eq h.1, floatsB_ok h.2⟩

abbrev CallF := Nat → List AV → Mem → Option (AV × Mem)
def noCall : CallF := fun _ _ _ => none
abbrev RngF := AOpd → List Nat → ACode → ACode → Tmps → Mem → Option Mem
def noRng : RngF := fun _ _ _ _ _ _ => none
def evStep (call yf : CallF) (id : Nat) (op : AOp) (t : Tmps) (σ : Mem) : Option (AV × Mem) :=
  match op with
  | .call f xs => (evs t xs).bind fun l => call f l σ
  | .callv x xs => match x.ev t with
    | some (.func f c) => (evs t xs).bind fun l => call f (l ++ c) σ
    | some (.yld b) => (evs t xs).bind fun l => yf b l σ
    | _ => none
  | op => match op.eff with
    | true => eop id op t σ
    | false => match nop id op t σ with
      | some r => some (r.1, σ.add id r.2)
      | none => none
def evOps (call yf : CallF) (base : Nat) : List RegE → Tmps → Mem → Option (Tmps × Mem)
  | [], t, σ => some (t, σ)
  | p :: rest, t, σ => match gval t p.o.g with
    | some true => match evStep call yf (base + p.i) p.o.op t σ with
      | some r => match floatsB base t σ r.2 p.fl with
        | true => evOps call yf base rest (Tmps.set t p.o.d r.1) r.2
        | false => none
      | none => none
    | some false => evOps call yf base rest (Tmps.set t p.o.d (.tup [])) σ
    | none => none
def apartB (t : Tmps) (p q : RegE) : Bool :=
  match p.o, q.o with
  | ⟨none, none, .store _ a _⟩, ⟨none, none, .store _ b _⟩ => match a.ev t, b.ev t with
    | some (.ptr x _), some (.ptr y _) => !Nat.beq x y
    | _, _ => false
  | _, _ => false
def evCode (call : CallF) (rng : RngF) (yf : CallF) : Nat → ACode → Tmps → Mem → Option (Exit × Tmps × Mem)
  | 0, _, _, _ => none
  | n + 1, c, t, σ => match c with
    | .skip => some (.normal, t, σ)
    | .region k ops => match evOps call yf σ.next ops t (σ.bump k) with
      | some r => some (.normal, r.1, r.2)
      | none => none
    | .seq x y => match evCode call rng yf n x t σ with
      | some (.normal, t', σ') => evCode call rng yf n y t' σ'
      | r => r
    | .cond c x y => match c.ev t with
      | some (.bool true) => evCode call rng yf n x t σ
      | some (.bool false) => evCode call rng yf n y t σ
      | _ => none
    | .block id x => match evCode call rng yf n x t σ with
      | some (.exit id', t', σ') => match Nat.beq id' id with
        | true => some (.normal, t', σ')
        | false => some (.exit id', t', σ')
      | r => r
    | .loop x => match evCode call rng yf n x t σ with
      | some (.normal, t', σ') => evCode call rng yf n (.loop x) t' σ'
      | r => r
    | .exit id => some (.exit id, t, σ)
    | .ret => some (.ret, t, σ)
    | .scope x => evCode call rng yf n x t σ
    | .forget ks => some (.normal, Tmps.keep t ks, σ)
    | .range g ps a b => match rng g ps a b t σ with
      | some σ' => some (.normal, t, σ')
      | none => none
    | .regionX k ops p q fq fp => match evOps call yf σ.next ops t (σ.bump k) with
      | some r => match apartB r.1 p q with
        | true => match evOps call yf σ.next [p, q] r.1 r.2 with
          | some a => match evOps call yf σ.next [⟨q.i, q.o, fq⟩, ⟨p.i, p.o, fp⟩] r.1 r.2 with
            | some _ => some (.normal, a.1, a.2)
            | none => none
          | none => none
        | false => none
      | none => none
    | .stuck => none
def evYield (call : CallF) (N : Nat) (b : Nat) (ps : List Nat) (x y : ACode) (t : Tmps) : CallF := fun b' args σ =>
  match Nat.beq b' b && Nat.beq args.length ps.length with
  | true => (match evCode call noRng noCall N x (Tmps.fill t ps args) σ with
    | some (.normal, t1, σ1) => (match evCode call noRng noCall N y t1 σ1 with
      | some (.normal, _, σ2) => some (.bool true, σ2)
      | _ => none)
    | _ => none)
  | false => none
def evRng (callY : CallF → CallF) (N : Nat) : RngF := fun g ps x y t σ =>
  match g.ev t with
  | some (.func f c) => (match callY (evYield (callY noCall) N σ.next ps x y t) f (.yld σ.next :: c) (σ.bump 1) with
    | some (_, σ') => some σ'
    | none => none)
  | _ => none
def evCallY (tbl : Nat → Option AFunc) (orc : CallF) (N : Nat) : Nat → CallF → CallF
  | 0, _, _, _, _ => none
  | d + 1, yf, f, args, σ => match tbl f with
    | some af => match Nat.ble args.length af.N with
      | true => match evCode (evCallY tbl orc N d noCall) (evRng (evCallY tbl orc N d) N) yf N af.body (argT args 0 .leaf) σ with
        | some (.normal, t', σ') => match evr t' σ' af.res with
          | some l => some (packA l, σ')
          | none => none
        | some (.ret, t', σ') => match evr t' σ' af.res with
          | some l => some (packA l, σ')
          | none => none
        | _ => none
      | false => none
    | none => orc f args σ
def evCall (tbl : Nat → Option AFunc) (orc : CallF) (N : Nat) (D : Nat) : CallF := evCallY tbl orc N D noCall

theorem evCode_mono {call : CallF} {rng : RngF} {yf : CallF} : ∀ {n m : Nat} {c : ACode} {t : Tmps} {σ : Mem} {r : Exit × Tmps × Mem}, evCode call rng yf n c t σ = some r → n ≤ m → evCode call rng yf m c t σ = some r := by
  intro n
  induction n with
  | zero => intro m c t σ r h; simp [evCode] at h
  | succ n ih =>
    intro m c t σ r h hle
    obtain ⟨m, rfl⟩ : ∃ k, m = k + 1 := ⟨m - 1, by omega⟩
    have hle' : n ≤ m := by omega
    cases c with
    | skip => exact h
    | region k ops => exact h
    | exit id => exact h
    | ret => exact h
    | stuck => exact h
    | forget ks => exact h
    | range g ps x y => exact h
    | regionX k ops p q fq fp => exact h
    | scope x => exact ih (c := x) h hle'
    | seq x y =>
      simp only [evCode] at h ⊢
      split at h
      · rename_i t1 σ1 hx
        rw [ih hx hle']
        exact ih h hle'
      · rename_i hno
        rw [ih h hle']
        obtain ⟨e, t1, σ1⟩ := r
        cases e with
        | normal => exact absurd h (hno _ _)
        | _ => rfl
    | cond c x y =>
      simp only [evCode] at h ⊢
      split at h
      · exact ih h hle'
      · exact ih h hle'
      · cases h
    | block id x =>
      simp only [evCode] at h ⊢
      split at h
      · rename_i hx
        rw [ih hx hle']
        exact h
      · rename_i hno
        rw [ih h hle']
        obtain ⟨e, t1, σ1⟩ := r
        cases e with
        | exit id' => exact absurd h (hno _ _ _)
        | _ => rfl
    | loop x =>
      simp only [evCode] at h ⊢
      split at h
      · rename_i t1 σ1 hx
        rw [ih hx hle']
        exact ih h hle'
      · rename_i hno
        rw [ih h hle']
        obtain ⟨e, t1, σ1⟩ := r
        cases e with
        | normal => exact absurd h (hno _ _)
        | _ => rfl

section
variable {P : Program} {Y : YEnv} {call yf : CallF} {rng : RngF} {t t' : Tmps} {σ σ' : Mem}
def CallOk (P : Program) (call : CallF) : Prop := ∀ f args σ v σ', call f args σ = some (v, σ') → ACalls P f args σ fun u τ => u = v ∧ τ = σ'
def YFOk (yf : CallF) (Y : YEnv) : Prop := ∀ b args σ v σ', yf b args σ = some (v, σ') → ∃ T, Y b = some T ∧ T args σ fun u τ => u = v ∧ τ = σ'
def RngOk (P : Program) (rng : RngF) : Prop := ∀ g ps x y t σ σ', rng g ps x y t σ = some σ' → ∀ (Y : YEnv) (Q : APost), Q .normal t σ' → AW P Y (.range g ps x y) Q t σ
theorem YFOk.no : YFOk noCall noY := fun b args σ v σ' h => by cases h
theorem evStep_ok (hc : CallOk P call) (hy : YFOk yf Y) {id : Nat} {op : AOp} {v : AV} {k : AV → Mem → Prop} (h : evStep call yf id op t σ = some (v, σ')) (hk : k v σ') : AStep P Y id op t σ k := by
  have hq : ∀ u τ, u = v ∧ τ = σ' → k u τ := fun u τ ⟨e1, e2⟩ => by subst e1; subst e2; exact hk
  cases op
  case nextM x => simp [evStep, AOp.eff, eop] at h
  case call f xs =>
    simp only [evStep, Option.bind_eq_some_iff] at h
    obtain ⟨l, hl, h⟩ := h
    simp only [AStep, hl]
    exact (hc _ _ _ _ _ h).mono hq
  case callv x xs =>
    simp only [evStep] at h
    split at h
    · rename_i f c hx
      simp only [Option.bind_eq_some_iff] at h
      obtain ⟨l, hl, h⟩ := h
      simp only [AStep, hx, hl]
      exact (hc _ _ _ _ _ h).mono hq
    · rename_i b hx
      simp only [Option.bind_eq_some_iff] at h
      obtain ⟨l, hl, h⟩ := h
      obtain ⟨T, hT, h⟩ := hy _ _ _ _ _ h
      simp only [AStep, hx, hl, hT]
      exact ⟨_, h, hq⟩
    · cases h
  all_goals
    simp only [evStep] at h
    simp only [AStep]
    split at h
    · rename_i he
      rw [if_pos he]
      rw [h]
      exact hk
    · rename_i he
      rw [if_neg (by simp [he])]
      split at h
      · rename_i r hr
        rw [hr]
        cases h
        exact hk
      · cases h
theorem evOps_ok (hc : CallOk P call) (hy : YFOk yf Y) {base : Nat} {K : Tmps → Mem → Prop} : ∀ {l : List RegE} {t : Tmps} {σ : Mem}, evOps call yf base l t σ = some (t', σ') → K t' σ' → AOps P Y base K l t σ
  | [], t, σ, h, hK => by simp [evOps] at h; obtain ⟨rfl, rfl⟩ := h; exact hK
  | p :: l, t, σ, h, hK => by
    simp only [evOps] at h
    simp only [AOps]
    split at h
    · rename_i hg
      rw [hg]
      split at h
      · rename_i r hr
        obtain ⟨v, σ1⟩ := r
        split at h
        · rename_i hf
          exact evStep_ok hc hy hr ⟨floatsB_ok hf, evOps_ok hc hy h hK⟩
        · cases h
      · cases h
    · rename_i hg
      rw [hg]
      exact evOps_ok hc hy h hK
    · cases h
theorem putF_comm {α : Type} : ∀ (f g : Nat) (t : Tr α) (n m : Nat) (o o' : Option α), n ≠ m → n < f → m < g → Tr.putF g (Tr.putF f t n o) m o' = Tr.putF f (Tr.putF g t m o') n o
  | 0, _, _, _, _, _, _, _, h, _ => absurd h (Nat.not_lt_zero _)
  | _ + 1, 0, _, _, _, _, _, _, _, h => absurd h (Nat.not_lt_zero _)
  | f + 1, g + 1, t, n, m, o, o', hne, hf, hg => by
    cases n with
    | zero =>
      cases m with
      | zero => exact absurd rfl hne
      | succ m =>
        rw [Tr.putF_succ, Tr.putF_succ]
        split <;> rfl
    | succ n =>
      cases m with
      | zero =>
        rw [Tr.putF_succ, Tr.putF_succ]
        split <;> rfl
      | succ m =>
        rw [Tr.putF_succ, Tr.putF_succ, Tr.putF_succ, Tr.putF_succ]
        by_cases h1 : n % 2 = 0
        · by_cases h2 : m % 2 = 0
          · simp only [if_pos h1, if_pos h2]
            exact congrArg (fun x => Tr.node t.val x t.rt) (putF_comm f g t.lt (n / 2) (m / 2) o o' (by omega) (by omega) (by omega))
          · simp only [if_pos h1, if_neg h2]
            rfl
        · by_cases h2 : m % 2 = 0
          · simp only [if_neg h1, if_pos h2]
            rfl
          · simp only [if_neg h1, if_neg h2]
            exact congrArg (fun x => Tr.node t.val t.lt x) (putF_comm f g t.rt (n / 2) (m / 2) o o' (by omega) (by omega) (by omega))
theorem Mem.put_comm (σ : Mem) {b b' : Nat} (h : b ≠ b') (o o' : Option Blk) : (σ.put b o).put b' o' = (σ.put b' o').put b o := by
  unfold Mem.put Tr.put
  rw [putF_comm _ _ _ _ _ _ _ h (Nat.lt_succ_self _) (Nat.lt_succ_self _)]
theorem store_eop {id n : Nat} {a x : AOpd} {b o : Nat} {r : AV × Mem} (ha : a.ev t = some (.ptr b o)) (h : eop id (.store n a x) t σ = some r) :
    ∃ v c, x.ev t = some v ∧ σ.get b = some (.rw c) ∧ r = (.tup [], σ.put b (some (.rw (setAt c o v.cells)))) := by
  simp only [eop, ha, Option.bind_some, Option.bind_eq_some_iff] at h
  obtain ⟨v, hv, h⟩ := h
  split at h
  · rename_i c hc
    split at h
    · cases h; exact ⟨v, c, hv, hc, rfl⟩
    · cases h
  · cases h
theorem evOps_store {base i n : Nat} {a x : AOpd} {fl : List (Nat × AOp)} {l : List RegE} {b o : Nat} {r : Tmps × Mem} (ha : a.ev t = some (.ptr b o)) (h : evOps call yf base (⟨i, ⟨none, none, .store n a x⟩, fl⟩ :: l) t σ = some r) :
    ∃ v c, x.ev t = some v ∧ σ.get b = some (.rw c) ∧ evOps call yf base l t (σ.put b (some (.rw (setAt c o v.cells)))) = some r := by
  simp only [evOps, gval, evStep, AOp.eff] at h
  split at h
  · rename_i r1 hr
    obtain ⟨v, c, h1, h2, h3⟩ := store_eop ha hr
    subst h3
    split at h
    · exact ⟨v, c, h1, h2, h⟩
    · cases h
  · cases h
theorem apart_same {base : Nat} {p q : RegE} {fq fp : List (Nat × AOp)} {r1 r2 : Tmps × Mem} (h : apartB t p q = true) (h1 : evOps call yf base [p, q] t σ = some r1) (h2 : evOps call yf base [⟨q.i, q.o, fq⟩, ⟨p.i, p.o, fp⟩] t σ = some r2) : r1 = r2 := by
  unfold apartB at h
  split at h
  · rename_i n a x m b y hp hq
    split at h
    · rename_i u o u' o' ha hb
      have hne : u ≠ u' := fun e => by subst e; simp at h
      obtain ⟨pi, po, pf⟩ := p
      obtain ⟨qi, qo, qf⟩ := q
      simp only at hp hq
      subst hp hq
      obtain ⟨v1, c1, e1, e2, e3⟩ := evOps_store ha h1
      obtain ⟨v2, c2, f1, f2, f3⟩ := evOps_store hb e3
      obtain ⟨v3, c3, g1, g2, g3⟩ := evOps_store hb h2
      obtain ⟨v4, c4, k1, k2, k3⟩ := evOps_store ha g3
      simp only [evOps, Option.some.injEq] at f3 k3
      rw [Mem.get_put_ne _ (Ne.symm hne)] at f2
      rw [Mem.get_put_ne _ hne] at k2
      rw [e1] at k1; rw [f1] at g1; rw [e2] at k2; rw [f2] at g2
      cases k1; cases g1; cases k2; cases g2
      rw [← f3, ← k3, Mem.put_comm _ hne]
    · cases h
  · cases h
theorem least {p : Nat → Prop} : (∃ n, p n) → ∃ m, p m ∧ ∀ k, p k → m ≤ k := by
  rintro ⟨n, hn⟩
  induction n using Nat.strongRecOn with
  | _ n ih =>
    rcases Classical.em (∃ k, k < n ∧ p k) with ⟨k, hk, hpk⟩ | hno
    · exact ih k hk hpk
    · refine ⟨n, hn, fun k hk => ?_⟩
      rcases Nat.lt_or_ge k n with h | h
      · exact absurd ⟨k, h, hk⟩ hno
      · exact h
theorem evCode_ok (hc : CallOk P call) (hrng : RngOk P rng) (hy : YFOk yf Y) : ∀ {n : Nat} {c : ACode} {t : Tmps} {σ : Mem} {e : Exit} {Q : APost}, evCode call rng yf n c t σ = some (e, t', σ') → Q e t' σ' → AW P Y c Q t σ := by
  intro n
  induction n generalizing t' σ' with
  | zero => intro c t σ e Q h; simp [evCode] at h
  | succ n ih =>
    intro c
    cases c with
    | skip => intro t σ e Q h hQ; simp [evCode] at h; obtain ⟨rfl, rfl, rfl⟩ := h; exact hQ
    | region k ops =>
      intro t σ e Q h hQ
      simp only [evCode] at h
      split at h
      · rename_i r hr
        cases h
        exact evOps_ok hc hy hr hQ
      · cases h
    | seq x y =>
      intro t σ e Q h hQ
      simp only [evCode] at h
      simp only [AW]
      split at h
      · rename_i t1 σ1 hx
        exact ih hx (show APost.then _ Q .normal t1 σ1 from ih h hQ)
      · rename_i hno
        refine ih h ?_
        cases e with
        | normal => exact absurd h (hno _ _)
        | _ => exact hQ
    | cond c x y =>
      intro t σ e Q h hQ
      simp only [evCode] at h
      simp only [AW]
      split at h
      · rename_i hcv
        rw [hcv]
        exact ⟨fun _ => ih h hQ, fun e => by cases e⟩
      · rename_i hcv
        rw [hcv]
        exact ⟨fun e => (by cases e), fun _ => ih h hQ⟩
      · cases h
    | block id x =>
      intro t σ e Q h hQ
      simp only [evCode] at h
      simp only [AW]
      split at h
      · rename_i id' t1 σ1 hx
        split at h
        · rename_i hb
          cases h
          exact ih hx (by simp only [APost.inBlock]; rw [if_pos (Nat.eq_of_beq_eq_true hb)]; exact hQ)
        · rename_i hb
          cases h
          exact ih hx (by
            simp only [APost.inBlock]
            rw [if_neg (fun e => by subst e; simp at hb)]; exact hQ)
      · rename_i hno
        refine ih h ?_
        cases e with
        | exit id' => exact absurd h (hno _ _ _)
        | _ => exact hQ
    | loop x =>
      intro t σ e Q h hQ
      let I : Tmps → Mem → Prop := fun t σ => ∃ m, evCode call rng yf m (.loop x) t σ = some (e, t', σ') ∧ m ≤ n + 1
      have hI : ∀ t σ, I t σ → ∃ m, (evCode call rng yf m (.loop x) t σ = some (e, t', σ') ∧ m ≤ n + 1) ∧ ∀ k, (evCode call rng yf k (.loop x) t σ = some (e, t', σ') ∧ k ≤ n + 1) → m ≤ k := fun t σ h => least h
      let μ : Tmps → Mem → Nat := fun t σ => @dite Nat (I t σ) (Classical.propDecidable _) (fun h => Classical.choose (hI t σ h)) (fun _ => 0)
      refine ⟨I, μ, ⟨n + 1, h, Nat.le_refl _⟩, fun t1 σ1 hi => ?_⟩
      have hm := Classical.choose_spec (hI t1 σ1 hi)
      have hμ : μ t1 σ1 = Classical.choose (hI t1 σ1 hi) := dif_pos hi
      rw [← hμ] at hm
      obtain ⟨⟨hev, hle⟩, hmin⟩ := hm
      rw [hμ]
      rw [← hμ]
      generalize hμ1 : μ t1 σ1 = m at hev hle hmin
      cases m with
      | zero => simp [evCode] at hev
      | succ k =>
        simp only [evCode] at hev
        have lift : ∀ {e1 : Exit} {t2 : Tmps} {σ2 : Mem} {R : APost}, evCode call rng yf k x t1 σ1 = some (e1, t2, σ2) → R e1 t2 σ2 → AW P Y x R t1 σ1 := by
          intro e1 t2 σ2 R h1 hR
          exact ih (t' := t2) (σ' := σ2) (evCode_mono h1 (by omega)) hR
        split at hev
        · rename_i t2 σ2 hx
          refine lift hx ⟨⟨k, hev, by omega⟩, ?_⟩
          have hi2 : I t2 σ2 := ⟨k, hev, by omega⟩
          have h2 := (Classical.choose_spec (hI t2 σ2 hi2)).2 k ⟨hev, by omega⟩
          have hμ2 : μ t2 σ2 = Classical.choose (hI t2 σ2 hi2) := dif_pos hi2
          rw [hμ2]; omega
        · rename_i hno
          refine lift hev ?_
          cases e with
          | normal => exact absurd hev (hno _ _)
          | _ => exact hQ
    | exit id => intro t σ e Q h hQ; simp [evCode] at h; obtain ⟨rfl, rfl, rfl⟩ := h; exact hQ
    | ret => intro t σ e Q h hQ; simp [evCode] at h; obtain ⟨rfl, rfl, rfl⟩ := h; exact hQ
    | scope x =>
      intro t σ e Q h hQ
      simp only [evCode] at h
      simp only [AW]
      exact ih h hQ
    | forget ks => intro t σ e Q h hQ; simp [evCode] at h; obtain ⟨rfl, rfl, rfl⟩ := h; exact hQ
    | range g ps x y =>
      intro t σ e Q h hQ
      simp only [evCode] at h
      split at h
      · rename_i σ1 hr
        cases h
        exact hrng _ _ _ _ _ _ _ hr Y Q hQ
      · cases h
    | regionX k ops p q fq fp =>
      intro t σ e Q h hQ
      simp only [evCode] at h
      split at h
      · rename_i r hr
        split at h
        · rename_i hap
          split at h
          · rename_i r1 h1
            split at h
            · rename_i r2 h2
              cases h
              have hsame := apart_same hap h1 h2
              subst hsame
              exact evOps_ok hc hy hr ⟨evOps_ok hc hy h1 hQ, evOps_ok hc hy h2 hQ⟩
            · cases h
          · cases h
        · cases h
      · cases h
    | stuck => intro t σ e Q h; simp [evCode] at h
theorem noRng_ok : RngOk P noRng := fun _ _ _ _ _ _ _ h => by cases h
theorem evYield_ok (hc : CallOk P call) {N b : Nat} {ps : List Nat} {x y : ACode} {t : Tmps} :
    YFOk (evYield call N b ps x y t) (oneY b fun args σ' K => args.length = ps.length ∧ AW P noY x (APost.then (fun t1 σ1 => AW P noY y (fun e _ σ2 => match e with
      | .normal => K (.bool true) σ2
      | _ => False) t1 σ1) (fun _ _ _ => False)) (Tmps.fill t ps args) σ') := by
  intro b' args σ v σ' h
  simp only [evYield] at h
  split at h
  · rename_i hb
    rw [Bool.and_eq_true] at hb
    obtain rfl := Nat.eq_of_beq_eq_true hb.1
    refine ⟨_, if_pos rfl, Nat.eq_of_beq_eq_true hb.2, ?_⟩
    split at h
    · rename_i t1 σ1 h1
      split at h
      · rename_i t2 σ2 h2
        cases h
        exact evCode_ok hc noRng_ok .no h1 (show APost.then _ _ .normal t1 σ1 from evCode_ok hc noRng_ok .no h2 ⟨rfl, rfl⟩)
      · cases h
    · cases h
  · cases h
theorem evRng_ok {callY : CallF → CallF} (hc : ∀ yf Y, YFOk yf Y → ∀ f args σ v σ', callY yf f args σ = some (v, σ') → ACallsY P Y f args σ fun u τ => u = v ∧ τ = σ') {N : Nat} : RngOk P (evRng callY N) := by
  intro g ps x y t σ σ' h Y Q hQ
  simp only [evRng] at h
  simp only [AW]
  split at h
  · rename_i f c hg
    rw [hg]
    split at h
    · rename_i v σ1 hr
      cases h
      refine (hc _ _ (evYield_ok (P := P) (fun f args σ v σ' h => (hc _ _ .no f args σ v σ' h).plain)) _ _ _ _ _ hr).mono ?_
      rintro u τ ⟨_, rfl⟩
      exact hQ
    · cases h
  · cases h
theorem evCallY_ok {tbl : Nat → Option AFunc} {orc : CallF} (hm : P.follows .mixedOrders = true) (ht : ∀ f af, tbl f = some af → compFunc P f = some af) (ho : CallOk P orc) {N : Nat} :
    ∀ {D : Nat} (yf : CallF) (Y : YEnv), YFOk yf Y → ∀ f args σ v σ', evCallY tbl orc N D yf f args σ = some (v, σ') → ACallsY P Y f args σ fun u τ => u = v ∧ τ = σ' := by
  intro D
  induction D with
  | zero => intro yf Y hy f args σ v σ' h; simp [evCallY] at h
  | succ D ih =>
    intro yf Y hy f args σ v σ' h
    have hcall : CallOk P (evCallY tbl orc N D noCall) := fun f args σ v σ' h => (ih _ _ .no f args σ v σ' h).plain
    simp only [evCallY] at h
    split at h
    · rename_i af hf
      have hcf := ht _ _ hf
      split at h
      · rename_i hlen
        refine .of_func hm hcf (Nat.le_of_ble_eq_true hlen) ?_
        split at h
        · rename_i t' σ1 he
          split at h
          · rename_i l hl
            cases h
            exact evCode_ok hcall (evRng_ok ih) hy he (by simp only [retPost, hl]; trivial)
          · cases h
        · rename_i t' σ1 he
          split at h
          · rename_i l hl
            cases h
            exact evCode_ok hcall (evRng_ok ih) hy he (by simp only [retPost, hl]; trivial)
          · cases h
        · cases h
      · cases h
    · exact (ho _ _ _ _ _ h).any
theorem evCall_ok {tbl : Nat → Option AFunc} {orc : CallF} (hm : P.follows .mixedOrders = true) (ht : ∀ f af, tbl f = some af → compFunc P f = some af) (ho : CallOk P orc) {N : Nat} {D : Nat} : CallOk P (evCall tbl orc N D) :=
  fun f args σ v σ' h => (evCallY_ok hm ht ho _ _ .no f args σ v σ' h).plain
theorem noCall_ok : CallOk P noCall := fun f args σ v σ' h => by cases h

/-! ### Calls of closed things, whatever memory stands around -/
def AV.scal : AV → Bool
  | .bool _ | .int _ _ | .str _ | .nilp | .nils | .nilm | .nilf | .nili => true
  | _ => false
theorem VRel.scal {ρ ρ' : Ren} {a : AV} {v : Value} (h : VRel ρ a v) (hs : a.scal = true) : VRel ρ' a v := by
  cases h <;> first | (simp [AV.scal] at hs; done) | constructor
theorem LRel.scal {ρ ρ' : Ren} {l : List AV} {vs : Array Value} (h : LRel ρ l vs) (hs : l.all AV.scal = true) : LRel ρ' l vs :=
  ⟨h.1, fun i a v ha hv => (h.2 i a v ha hv).scal (List.all_eq_true.1 hs a (List.mem_of_getElem? ha))⟩
theorem ACalls.closed {f : Nat} {args : List AV} {c : AV} (h : ACalls P f args ⟨.leaf, 0⟩ fun v _ => v = c) (ha : args.all AV.scal = true) (hc : c.scal = true) (σ : Mem) :
    ACalls P f args σ fun v σ' => v = c ∧ σ' = σ := by
  refine ⟨h.1, fun ρ w args' st hl => ?_⟩
  have st0 : St (fun _ => none) ⟨.leaf, 0⟩ w := ⟨fun b p h => (by cases h), fun b k h => (by simp [Mem.get, Tr.get_leaf] at h), fun b k p h => (by simp [Mem.get, Tr.get_leaf] at h), fun b b' k k' p p' h => (by simp [Mem.get, Tr.get_leaf] at h)⟩
  refine (h.2 _ w args' st0 (hl.scal ha)).mono fun e w' ⟨v, v', σ', ρ', he, hq, hv, hs⟩ => ?_
  subst hq
  have hframe : ∀ i, i < w.heap.size → w'.heap[i]? = w.heap[i]? := fun i hi => hs.frame i hi fun b k q h1 => by simp [Mem.get, Tr.get_leaf] at h1
  have st' : St ρ σ w' := ⟨st.dom, st.live, fun b k p hk hp => (st.rel b k p hk hp).move fun hsol => hframe _ ((st.rel b k p hk hp).lt hsol), st.inj⟩
  exact ⟨v, v', σ, ρ, he, ⟨rfl, rfl⟩, hv.scal hc, ⟨st', Nat.le_refl _, fun _ _ e => e, fun b p e e' => (by rw [e] at e'; cases e'), fun b k hk _ => ⟨k, hk, rfl⟩, fun _ _ _ => rfl, fun i hi _ => hframe i hi, hs.size, hs.os, hs.tape, hs.out⟩⟩
theorem ACalls.run {f : Nat} {args : List AV} {c : AV} {σ' : Mem} (hm : P.follows .mixedOrders = true) (N D : Nat) (h : evCall (compFunc P) noCall N D f args ⟨.leaf, 0⟩ = some (c, σ')) : ACalls P f args ⟨.leaf, 0⟩ fun v _ => v = c :=
  (evCall_ok hm (fun _ _ h => h) noCall_ok _ _ _ _ _ h).mono fun _ _ e => e.1
def runsTo (P : Program) (N D f : Nat) (args : List AV) (c : AV) : Bool :=
  match evCall (compFunc P) noCall N D f args ⟨.leaf, 0⟩ with
  | some (v, _) => AV.eqb v c
  | none => false
theorem ACalls.runs {f : Nat} {args : List AV} {c : AV} (hm : P.follows .mixedOrders = true) (N D : Nat) (h : runsTo P N D f args c = true) (ha : args.all AV.scal = true) (hc : c.scal = true) (σ : Mem) :
    ACalls P f args σ fun v σ' => v = c ∧ σ' = σ := by
  unfold runsTo at h
  split at h
  · rename_i v σ' he
    have := AV.eqb_eq _ _ h
    subst this
    exact (ACalls.run hm N D he).closed ha hc σ
  · cases h
end
end Go.Vit
