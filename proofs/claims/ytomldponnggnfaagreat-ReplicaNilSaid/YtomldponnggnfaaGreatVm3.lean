/- The library. -/
import Derived.JoinedOf
import Derived.Test.YtomldponnggnfaaGreatVitU
import Derived.Test.YtomldponnggnfaaGreatVm4
import Derived.Test.YtomldponnggnfaaGreatVm2
set_option linter.unusedVariables false
set_option linter.unusedSimpArgs false

section
namespace Go.Vit
def restA (P : Program) (fn : Func) (s : ChangeSpec) (c : OpenClaim) : Bool :=
  fn.params.all (P.readableRec ·) && namedTie P c.named s.vars && (c.stops == []) && (P.stops == []) && (c.knobs == []) && (P.stopKnobs == [])
def restB (P : Program) (fn : Func) (s : ChangeSpec) (c : OpenClaim) : Bool :=
  (c.maps == (fn.params.toList ++ s.plain.varTypes P).any (P.mapsRec ·)) && (c.ifaces == (fn.params.toList ++ s.plain.varTypes P).any (P.ifacesRec ·)) && (c.mapsOut == P.mapsAmong fn.resultTypes.toList) &&
  (c.loops == (fn.params.toList ++ s.plain.varTypes P).any (P.loopsFrom ·)) && (c.wideKeys == (fn.params.toList ++ s.plain.varTypes P ++ fn.resultTypes.toList).any (P.wideKeysFrom ·)) &&
  s.vars.all (P.varReadable ·) && fn.resultTypes.all (fun t => P.readableRec t && decide (t < P.types.size)) && (c.ifacesOut == fn.resultTypes.toList.any (P.ifacesRec ·)) && (c.loopsOut == fn.resultTypes.toList.any (P.loopsFrom ·))
def restC (P : Program) (fn : Func) (s : ChangeSpec) (c : OpenClaim) : Bool :=
  c.shortTexts.isNone && P.mayEnter && (c.lifted == P.liftsFinal) && (P.make == some c.make) && (c.kinds == (if c.domain.isEmpty then [] else fn.params.toList.map fun t => match P.underlying t with | some (.int k) => some k | _ => none)) && (c.pinned == c.pinnedBy) &&
  (c.veiled == (fn.params.toList ++ s.plain.varTypes P ++ fn.resultTypes.toList).any (P.veiledRec ·)) && c.veiledFits P fn.params.toList (fn.params.toList ++ s.plain.varTypes P ++ fn.resultTypes.toList)
theorem joined_mk {P : Program} {f : FuncId} {fn : Func} {s : ChangeSpec} {c : OpenClaim} (h1 : c.wf (OpenSpec.ofChange s) = true) (h2 : laidOutB P = true) (h3 : mapsRowed P = true) (hA : restA P fn s c = true)
    (h10 : (c.inPlace == P.inPlace f) = true) (h11 : (c.unfollowed == P.unfollowed f) = true) (h12 : (c.recurses == P.recurses f) = true) (h13 : (c.named == P.varsNamed f) = true)
    (hB : restB P fn s c = true) (h22 : (c.plainKeys == P.plainKeys) = true) (h23 : P.stopsHeard = true) (hC : restC P fn s c = true) : joinedFacts P f fn s c = true := by
  unfold restA restB restC at *
  unfold joinedFacts
  simp only [Bool.and_eq_true] at *
  obtain ⟨⟨⟨⟨⟨a1, a2⟩, a3⟩, a4⟩, a5⟩, a6⟩ := hA
  obtain ⟨⟨⟨⟨⟨⟨⟨⟨b1, b2⟩, b3⟩, b4⟩, b5⟩, b6⟩, b7⟩, b8⟩, b9⟩ := hB
  obtain ⟨⟨⟨⟨⟨⟨⟨c1, c2⟩, c3⟩, c4⟩, c5⟩, c6⟩, c7⟩, c8⟩ := hC
  exact ⟨⟨⟨⟨⟨⟨⟨⟨⟨⟨⟨⟨⟨⟨⟨⟨⟨⟨⟨⟨⟨⟨⟨⟨⟨⟨⟨⟨⟨⟨⟨h1, h2⟩, h3⟩, a1⟩, a2⟩, a3⟩, a4⟩, a5⟩, a6⟩, h10⟩, h11⟩, h12⟩, h13⟩, b1⟩, b2⟩, b3⟩, b4⟩, b5⟩, b6⟩, b7⟩, b8⟩, b9⟩, h22⟩, c1⟩, h23⟩, c2⟩, c3⟩, c4⟩, c5⟩, c6⟩, c7⟩, c8⟩
end Go.Vit
end

section
namespace Go.Vit
def goL {α β : Type} (f : α → Option (List β)) : List α → Option (List β)
  | [] => some []
  | a :: l => match f a with
    | none => none
    | some m => match goL f l with
      | none => none
      | some k => some (m ++ k)
def bindL {α β : Type} (o : Option (List α)) (f : α → Option (List β)) : Option (List β) := match o with
  | none => none
  | some l => goL f l
theorem goL_mem {α β : Type} {f : α → Option (List β)} : ∀ {l : List α} {L : List β}, goL f l = some L → ∀ a ∈ l, ∃ m, f a = some m ∧ ∀ x ∈ m, x ∈ L
  | [], _, _, a, h => by cases h
  | b :: l, L, h, a, ha => by
    simp only [goL] at h
    split at h
    · cases h
    · rename_i m hm
      split at h
      · cases h
      · rename_i k hk
        cases h
        rcases List.mem_cons.1 ha with rfl | ha
        · exact ⟨m, hm, fun _ h => List.mem_append_left _ h⟩
        · obtain ⟨m', h1, h2⟩ := goL_mem hk a ha
          exact ⟨m', h1, fun x hx => List.mem_append_right _ (h2 x hx)⟩
theorem bindL_mem {α β : Type} {o : Option (List α)} {f : α → Option (List β)} {L : List β} (h : bindL o f = some L) : ∃ l, o = some l ∧ ∀ a ∈ l, ∃ m, f a = some m ∧ ∀ x ∈ m, x ∈ L := by
  unfold bindL at h
  split at h
  · cases h
  · rename_i l
    exact ⟨l, rfl, goL_mem h⟩
abbrev CallL := Nat → List AV → Mem → Option (List (AV × Mem))
def noCallL : CallL := fun _ _ _ => none
abbrev RngL := AOpd → List Nat → ACode → ACode → Tmps → Mem → Option (List Mem)
def noRngL : RngL := fun _ _ _ _ _ _ => none
def leftE (seen : List Nat) : List (AV × AV × Nat) → List (AV × AV × Nat)
  | [] => []
  | e :: es => match seen.any (fun n => Nat.beq n e.2.2) with
    | true => leftE seen es
    | false => e :: leftE seen es
theorem leftE_mem {seen : List Nat} : ∀ {es : List (AV × AV × Nat)} {e : AV × AV × Nat}, e ∈ leftE seen es ↔ e ∈ es ∧ e.2.2 ∉ seen
  | [], e => by simp [leftE]
  | d :: es, e => by
    have ih := leftE_mem (seen := seen) (es := es) (e := e)
    have hd : (seen.any fun n => Nat.beq n d.2.2) = true ↔ d.2.2 ∈ seen := by
      rw [List.any_eq_true]
      exact ⟨fun ⟨n, h1, h2⟩ => by rw [← Nat.eq_of_beq_eq_true h2]; exact h1, fun h => ⟨_, h, by simp⟩⟩
    unfold leftE
    split
    · rename_i h
      rw [ih]
      exact ⟨fun ⟨h1, h2⟩ => ⟨List.mem_cons_of_mem _ h1, h2⟩, fun ⟨h1, h2⟩ => ⟨(List.mem_cons.1 h1).resolve_left (fun e1 => h2 (by rw [e1]; exact hd.1 h)), h2⟩⟩
    · rename_i h
      rw [List.mem_cons, ih, List.mem_cons]
      constructor
      · rintro (rfl | ⟨h1, h2⟩)
        · exact ⟨.inl rfl, fun hm => by rw [hd.2 hm] at h; cases h⟩
        · exact ⟨.inr h1, h2⟩
      · rintro ⟨rfl | h1, h2⟩
        · exact .inl rfl
        · exact .inr ⟨h1, h2⟩
def evStepL (call yf : CallL) (id : Nat) (op : AOp) (t : Tmps) (σ : Mem) : Option (List (AV × Mem)) :=
  match op with
  | .call f xs => (evs t xs).bind fun l => call f l σ
  | .callv x xs => match x.ev t with
    | some (.func f c) => (evs t xs).bind fun l => call f (l ++ c) σ
    | some (.yld b) => (evs t xs).bind fun l => yf b l σ
    | _ => none
  | .nextM x => match x.ev t with
    | some (.ptr b 0) => (match σ.get b with
      | some (.iter none _ _ _) => some [(.tup [.bool false], σ)]
      | some (.iter (some m) since seen last) => (match σ.get m with
        | some (.map es clock) => (match es.all (fun e => Nat.blt e.2.2 since) && Nat.ble since last with
          | true => (match leftE seen es with
            | [] => some [(.tup [.bool false], σ)]
            | e :: r => some ((e :: r).map fun e => (.tup [.bool true, e.1, e.2.1], σ.put b (some (.iter (some m) since (seen ++ [e.2.2]) clock)))))
          | false => none)
        | _ => none)
      | _ => none)
    | _ => none
  | op => match op.eff with
    | true => match eop id op t σ with
      | some r => some [r]
      | none => none
    | false => match nop id op t σ with
      | some r => some [(r.1, σ.add id r.2)]
      | none => none
def evOpsL (call yf : CallL) (base : Nat) : List RegE → Tmps → Mem → Option (List (Tmps × Mem))
  | [], t, σ => some [(t, σ)]
  | p :: rest, t, σ => match gval t p.o.g with
    | some true => bindL (evStepL call yf (base + p.i) p.o.op t σ) fun r => match floatsB base t σ r.2 p.fl with
        | true => evOpsL call yf base rest (Tmps.set t p.o.d r.1) r.2
        | false => none
    | some false => evOpsL call yf base rest (Tmps.set t p.o.d (.tup [])) σ
    | none => none
abbrev EndL := Exit × Tmps × Mem
def evCodeL (call : CallL) (rng : RngL) (yf : CallL) : Nat → ACode → Tmps → Mem → Option (List EndL)
  | 0, _, _, _ => none
  | n + 1, c, t, σ => match c with
    | .skip => some [(.normal, t, σ)]
    | .region k ops => bindL (evOpsL call yf σ.next ops t (σ.bump k)) fun r => some [(.normal, r.1, r.2)]
    | .seq x y => bindL (evCodeL call rng yf n x t σ) fun r => match r with
      | (.normal, t', σ') => evCodeL call rng yf n y t' σ'
      | r => some [r]
    | .cond c x y => match c.ev t with
      | some (.bool true) => evCodeL call rng yf n x t σ
      | some (.bool false) => evCodeL call rng yf n y t σ
      | _ => none
    | .block id x => bindL (evCodeL call rng yf n x t σ) fun r => match r with
      | (.exit id', t', σ') => match Nat.beq id' id with
        | true => some [(.normal, t', σ')]
        | false => some [(.exit id', t', σ')]
      | r => some [r]
    | .loop x => bindL (evCodeL call rng yf n x t σ) fun r => match r with
      | (.normal, t', σ') => evCodeL call rng yf n (.loop x) t' σ'
      | r => some [r]
    | .exit id => some [(.exit id, t, σ)]
    | .ret => some [(.ret, t, σ)]
    | .scope x => evCodeL call rng yf n x t σ
    | .forget ks => some [(.normal, Tmps.keep t ks, σ)]
    | .range g ps a b => bindL (rng g ps a b t σ) fun σ' => some [(.normal, t, σ')]
    | .regionX k ops p q fq fp => bindL (evOpsL call yf σ.next ops t (σ.bump k)) fun r => match apartB r.1 p q with
        | true => match evOps noCall noCall σ.next [p, q] r.1 r.2 with
          | some a => match evOps noCall noCall σ.next [⟨q.i, q.o, fq⟩, ⟨p.i, p.o, fp⟩] r.1 r.2 with
            | some _ => some [(.normal, a.1, a.2)]
            | none => none
          | none => none
        | false => none
    | .stuck => none
def evYieldL (call : CallL) (N : Nat) (b : Nat) (ps : List Nat) (x y : ACode) (t : Tmps) : CallL := fun b' args σ =>
  match Nat.beq b' b && Nat.beq args.length ps.length with
  | true => bindL (evCodeL call noRngL noCallL N x (Tmps.fill t ps args) σ) fun r => match r with
    | (.normal, t1, σ1) => bindL (evCodeL call noRngL noCallL N y t1 σ1) fun r => match r with
      | (.normal, _, σ2) => some [(.bool true, σ2)]
      | _ => none
    | _ => none
  | false => none
def evRngL (callY : CallL → CallL) (N : Nat) : RngL := fun g ps x y t σ =>
  match g.ev t with
  | some (.func f c) => bindL (callY (evYieldL (callY noCallL) N σ.next ps x y t) f (.yld σ.next :: c) (σ.bump 1)) fun r => some [r.2]
  | _ => none
def evCallYL (tbl : Nat → Option AFunc) (orc : CallL) (N : Nat) : Nat → CallL → CallL
  | 0, _, _, _, _ => none
  | d + 1, yf, f, args, σ => match tbl f with
    | some af => match Nat.ble args.length af.N with
      | true => bindL (evCodeL (evCallYL tbl orc N d noCallL) (evRngL (evCallYL tbl orc N d) N) yf N af.body (argT args 0 .leaf) σ) fun r => match r with
        | (.normal, t', σ') => match evr t' σ' af.res with
          | some l => some [(packA l, σ')]
          | none => none
        | (.ret, t', σ') => match evr t' σ' af.res with
          | some l => some [(packA l, σ')]
          | none => none
        | _ => none
      | false => none
    | none => orc f args σ
def evCallL (tbl : Nat → Option AFunc) (orc : CallL) (N : Nat) (D : Nat) : CallL := evCallYL tbl orc N D noCallL
section
variable {P : Program} {Y : YEnv} {call yf : CallL} {rng : RngL} {t t' : Tmps} {σ σ' : Mem}
def CallOkL (P : Program) (call : CallL) : Prop := ∀ f args σ L, call f args σ = some L → ACalls P f args σ fun u τ => (u, τ) ∈ L
def YFOkL (yf : CallL) (Y : YEnv) : Prop := ∀ b args σ L, yf b args σ = some L → ∃ T, Y b = some T ∧ T args σ fun u τ => (u, τ) ∈ L
def RngOkL (P : Program) (rng : RngL) : Prop := ∀ g ps x y t σ L, rng g ps x y t σ = some L → ∀ (Y : YEnv) (Q : APost), (∀ σ' ∈ L, Q .normal t σ') → AW P Y (.range g ps x y) Q t σ
theorem YFOkL.no : YFOkL noCallL noY := fun b args σ L h => by cases h
theorem evStepL_ok (hc : CallOkL P call) (hy : YFOkL yf Y) {id : Nat} {op : AOp} {L : List (AV × Mem)} {k : AV → Mem → Prop} (h : evStepL call yf id op t σ = some L) (hk : ∀ r ∈ L, k r.1 r.2) : AStep P Y id op t σ k := by
  cases op
  case nextM x =>
    simp only [evStepL] at h
    simp only [AStep]
    split at h
    · rename_i b hx
      simp only [hx]
      split at h
      · rename_i hb
        rw [hb]
        cases h
        exact hk _ (List.mem_singleton.2 rfl)
      · rename_i m since seen last hb
        rw [hb]
        dsimp only
        split at h
        · rename_i es clock hm
          rw [hm]
          dsimp only
          split at h
          · rename_i hall
            rw [Bool.and_eq_true, List.all_eq_true] at hall
            refine ⟨fun e he => ?_, Nat.le_of_ble_eq_true hall.2, ?_, ?_⟩
            · have := hall.1 e he
              rw [Nat.blt_eq] at this
              exact this
            · intro hs
              have : leftE seen es = [] := by
                rw [List.eq_nil_iff_forall_not_mem]
                intro e he
                rw [leftE_mem] at he
                exact he.2 (hs e he.1)
              rw [this] at h
              cases h
              exact hk _ (List.mem_singleton.2 rfl)
            · intro e he hn
              have hm := leftE_mem.2 ⟨he, hn⟩
              split at h
              · rename_i h0
                rw [h0] at hm; cases hm
              · rename_i d r h0
                cases h
                rw [← h0] at hk
                exact hk _ (List.mem_map.2 ⟨e, hm, rfl⟩)
          · cases h
        · cases h
      · cases h
    · cases h
  case call f xs =>
    simp only [evStepL, Option.bind_eq_some_iff] at h
    obtain ⟨l, hl, h⟩ := h
    simp only [AStep, hl]
    exact (hc _ _ _ _ h).mono fun u τ hu => hk _ hu
  case callv x xs =>
    simp only [evStepL] at h
    split at h
    · rename_i f c hx
      simp only [Option.bind_eq_some_iff] at h
      obtain ⟨l, hl, h⟩ := h
      simp only [AStep, hx, hl]
      exact (hc _ _ _ _ h).mono fun u τ hu => hk _ hu
    · rename_i b hx
      simp only [Option.bind_eq_some_iff] at h
      obtain ⟨l, hl, h⟩ := h
      obtain ⟨T, hT, h⟩ := hy _ _ _ _ h
      simp only [AStep, hx, hl, hT]
      exact ⟨_, h, fun u τ hu => hk _ hu⟩
    · cases h
  all_goals
    simp only [evStepL] at h
    simp only [AStep]
    split at h
    · rename_i he
      rw [if_pos he]
      split at h
      · rename_i r hr
        rw [hr]
        cases h
        exact hk _ (List.mem_singleton.2 rfl)
      · cases h
    · rename_i he
      rw [if_neg (by simp [he])]
      split at h
      · rename_i r hr
        rw [hr]
        cases h
        exact hk _ (List.mem_singleton.2 rfl)
      · cases h
theorem evOpsL_ok (hc : CallOkL P call) (hy : YFOkL yf Y) {base : Nat} {K : Tmps → Mem → Prop} : ∀ {l : List RegE} {t : Tmps} {σ : Mem} {L : List (Tmps × Mem)}, evOpsL call yf base l t σ = some L → (∀ r ∈ L, K r.1 r.2) → AOps P Y base K l t σ
  | [], t, σ, L, h, hK => by
    simp only [evOpsL, Option.some.injEq] at h
    subst h
    exact hK _ (List.mem_singleton.2 rfl)
  | p :: l, t, σ, L, h, hK => by
    simp only [evOpsL] at h
    simp only [AOps]
    split at h
    · rename_i hg
      rw [hg]
      obtain ⟨l1, h1, h2⟩ := bindL_mem h
      refine evStepL_ok hc hy h1 fun r hr => ?_
      obtain ⟨m, h3, h4⟩ := h2 r hr
      split at h3
      · rename_i hf
        exact ⟨floatsB_ok hf, evOpsL_ok hc hy h3 fun x hx => hK x (h4 x hx)⟩
      · cases h3
    · rename_i hg
      rw [hg]
      exact evOpsL_ok hc hy h hK
    · cases h
theorem evCodeL_ok (hc : CallOkL P call) (hrng : RngOkL P rng) (hy : YFOkL yf Y) : ∀ {n : Nat} {k : Nat}, k ≤ n → ∀ {c : ACode} {t : Tmps} {σ : Mem} {L : List EndL} {Q : APost}, evCodeL call rng yf k c t σ = some L → (∀ r ∈ L, Q r.1 r.2.1 r.2.2) → AW P Y c Q t σ := by
  intro n
  induction n with
  | zero =>
    intro k hk c t σ L Q h
    obtain rfl : k = 0 := by omega
    simp [evCodeL] at h
  | succ n ih =>
    intro k hk
    cases k with
    | zero => intro c t σ L Q h; simp [evCodeL] at h
    | succ k =>
    have hkn : k ≤ n := by omega
    intro c
    cases c with
    | skip =>
      intro t σ L Q h hQ
      simp only [evCodeL, Option.some.injEq] at h
      subst h
      exact hQ _ (List.mem_singleton.2 rfl)
    | region m ops =>
      intro t σ L Q h hQ
      simp only [evCodeL] at h
      obtain ⟨l, h1, h2⟩ := bindL_mem h
      refine evOpsL_ok hc hy h1 fun r hr => ?_
      obtain ⟨m, h3, h4⟩ := h2 r hr
      cases h3
      exact hQ _ (h4 _ (List.mem_singleton.2 rfl))
    | seq x y =>
      intro t σ L Q h hQ
      simp only [evCodeL] at h
      simp only [AW]
      obtain ⟨l, h1, h2⟩ := bindL_mem h
      refine ih hkn h1 fun r hr => ?_
      obtain ⟨m, h3, h4⟩ := h2 r hr
      obtain ⟨e, t1, σ1⟩ := r
      cases e with
      | normal => exact ih hkn h3 fun x hx => hQ x (h4 x hx)
      | _ =>
        cases h3
        exact hQ _ (h4 _ (List.mem_singleton.2 rfl))
    | cond c x y =>
      intro t σ L Q h hQ
      simp only [evCodeL] at h
      simp only [AW]
      split at h
      · rename_i hcv
        rw [hcv]
        exact ⟨fun _ => ih hkn h hQ, fun e => by cases e⟩
      · rename_i hcv
        rw [hcv]
        exact ⟨fun e => (by cases e), fun _ => ih hkn h hQ⟩
      · cases h
    | block id x =>
      intro t σ L Q h hQ
      simp only [evCodeL] at h
      simp only [AW]
      obtain ⟨l, h1, h2⟩ := bindL_mem h
      refine ih hkn h1 fun r hr => ?_
      obtain ⟨m, h3, h4⟩ := h2 r hr
      obtain ⟨e, t1, σ1⟩ := r
      cases e with
      | exit id' =>
        simp only at h3
        simp only [APost.inBlock]
        split at h3
        · rename_i hb
          cases h3
          rw [if_pos (Nat.eq_of_beq_eq_true hb)]
          exact hQ _ (h4 _ (List.mem_singleton.2 rfl))
        · rename_i hb
          cases h3
          rw [if_neg (fun e => by subst e; simp at hb)]
          exact hQ _ (h4 _ (List.mem_singleton.2 rfl))
      | _ =>
        cases h3
        exact hQ _ (h4 _ (List.mem_singleton.2 rfl))
    | loop x =>
      intro t σ L Q h hQ
      let I : Tmps → Mem → Prop := fun t σ => ∃ m, ∃ L, evCodeL call rng yf m (.loop x) t σ = some L ∧ (∀ r ∈ L, Q r.1 r.2.1 r.2.2) ∧ m ≤ n + 1
      let W : Tmps → Mem → Nat → Prop := fun t σ m => ∃ L, evCodeL call rng yf m (.loop x) t σ = some L ∧ (∀ r ∈ L, Q r.1 r.2.1 r.2.2) ∧ m ≤ n + 1
      have hI : ∀ t σ, I t σ → ∃ m, W t σ m ∧ ∀ k, W t σ k → m ≤ k := fun t σ h => least h
      let μ : Tmps → Mem → Nat := fun t σ => @dite Nat (I t σ) (Classical.propDecidable _) (fun h => Classical.choose (hI t σ h)) (fun _ => 0)
      refine ⟨I, μ, ⟨k + 1, L, h, hQ, hk⟩, fun t1 σ1 hi => ?_⟩
      have hm := Classical.choose_spec (hI t1 σ1 hi)
      have hμ : μ t1 σ1 = Classical.choose (hI t1 σ1 hi) := dif_pos hi
      rw [← hμ] at hm
      obtain ⟨⟨L1, hev, hQ1, hle⟩, hmin⟩ := hm
      generalize hμ1 : μ t1 σ1 = m at hev hle hmin
      cases m with
      | zero => simp [evCodeL] at hev
      | succ j =>
        simp only [evCodeL] at hev
        obtain ⟨l, h1, h2⟩ := bindL_mem hev
        refine ih (by omega) h1 fun r hr => ?_
        obtain ⟨m, h3, h4⟩ := h2 r hr
        obtain ⟨e, t2, σ2⟩ := r
        cases e with
        | normal =>
          have hw : W t2 σ2 j := ⟨m, h3, fun x hx => hQ1 x (h4 x hx), by omega⟩
          have hi2 : I t2 σ2 := ⟨j, hw⟩
          refine ⟨hi2, ?_⟩
          have h5 := (Classical.choose_spec (hI t2 σ2 hi2)).2 j hw
          have hμ2 : μ t2 σ2 = Classical.choose (hI t2 σ2 hi2) := dif_pos hi2
          show μ t2 σ2 < _
          rw [hμ2]
          omega
        | _ =>
          cases h3
          exact hQ1 _ (h4 _ (List.mem_singleton.2 rfl))
    | exit id =>
      intro t σ L Q h hQ
      simp only [evCodeL, Option.some.injEq] at h
      subst h
      exact hQ _ (List.mem_singleton.2 rfl)
    | ret =>
      intro t σ L Q h hQ
      simp only [evCodeL, Option.some.injEq] at h
      subst h
      exact hQ _ (List.mem_singleton.2 rfl)
    | scope x =>
      intro t σ L Q h hQ
      simp only [evCodeL] at h
      simp only [AW]
      exact ih hkn h hQ
    | forget ks =>
      intro t σ L Q h hQ
      simp only [evCodeL, Option.some.injEq] at h
      subst h
      exact hQ _ (List.mem_singleton.2 rfl)
    | range g ps x y =>
      intro t σ L Q h hQ
      simp only [evCodeL] at h
      obtain ⟨l, h1, h2⟩ := bindL_mem h
      refine hrng _ _ _ _ _ _ _ h1 Y Q fun r hr => ?_
      obtain ⟨m, h3, h4⟩ := h2 r hr
      cases h3
      exact hQ _ (h4 _ (List.mem_singleton.2 rfl))
    | regionX m ops p q fq fp =>
      intro t σ L Q h hQ
      simp only [evCodeL] at h
      obtain ⟨l, h1, h2⟩ := bindL_mem h
      refine evOpsL_ok hc hy h1 fun r hr => ?_
      obtain ⟨m, h3, h4⟩ := h2 r hr
      split at h3
      · rename_i hap
        split at h3
        · rename_i r1 e1
          split at h3
          · rename_i r2 e2
            cases h3
            have hsame := apart_same hap e1 e2
            subst hsame
            have hQ2 := hQ _ (h4 _ (List.mem_singleton.2 rfl))
            have hno : ∀ (Y : YEnv), YFOk noCall Y := fun Y b args σ v σ' h => by cases h
            exact ⟨evOps_ok noCall_ok (hno Y) e1 hQ2, evOps_ok noCall_ok (hno Y) e2 hQ2⟩
          · cases h3
        · cases h3
      · cases h3
    | stuck => intro t σ L Q h; simp [evCodeL] at h
theorem noRngL_ok : RngOkL P noRngL := fun _ _ _ _ _ _ _ h => by cases h
theorem evYieldL_ok (hc : CallOkL P call) {N b : Nat} {ps : List Nat} {x y : ACode} {t : Tmps} :
    YFOkL (evYieldL call N b ps x y t) (oneY b fun args σ' K => args.length = ps.length ∧ AW P noY x (APost.then (fun t1 σ1 => AW P noY y (fun e _ σ2 => match e with
      | .normal => K (.bool true) σ2
      | _ => False) t1 σ1) (fun _ _ _ => False)) (Tmps.fill t ps args) σ') := by
  intro b' args σ L h
  simp only [evYieldL] at h
  split at h
  · rename_i hb
    rw [Bool.and_eq_true] at hb
    obtain rfl := Nat.eq_of_beq_eq_true hb.1
    refine ⟨_, if_pos rfl, Nat.eq_of_beq_eq_true hb.2, ?_⟩
    obtain ⟨l, h1, h2⟩ := bindL_mem h
    refine evCodeL_ok hc noRngL_ok .no (Nat.le_refl _) h1 fun r hr => ?_
    obtain ⟨m, h3, h4⟩ := h2 r hr
    obtain ⟨e, t1, σ1⟩ := r
    cases e with
    | normal =>
      obtain ⟨l', h5, h6⟩ := bindL_mem h3
      refine evCodeL_ok hc noRngL_ok .no (Nat.le_refl _) h5 fun r hr => ?_
      obtain ⟨m', h7, h8⟩ := h6 r hr
      obtain ⟨e, t2, σ2⟩ := r
      cases e with
      | normal =>
        cases h7
        exact h4 _ (h8 _ (List.mem_singleton.2 rfl))
      | _ => cases h7
    | _ => cases h3
  · cases h
theorem evRngL_ok {callY : CallL → CallL} (hc : ∀ yf Y, YFOkL yf Y → ∀ f args σ L, callY yf f args σ = some L → ACallsY P Y f args σ fun u τ => (u, τ) ∈ L) {N : Nat} : RngOkL P (evRngL callY N) := by
  intro g ps x y t σ L h Y Q hQ
  simp only [evRngL] at h
  simp only [AW]
  split at h
  · rename_i f c hg
    rw [hg]
    obtain ⟨l, h1, h2⟩ := bindL_mem h
    refine (hc _ _ (evYieldL_ok (P := P) (fun f args σ L h => (hc _ _ .no f args σ L h).plain)) _ _ _ _ h1).mono ?_
    intro u τ hu
    obtain ⟨m, h3, h4⟩ := h2 _ hu
    cases h3
    exact hQ _ (h4 _ (List.mem_singleton.2 rfl))
  · cases h
theorem evCallYL_ok {tbl : Nat → Option AFunc} {orc : CallL} (hm : P.follows .mixedOrders = true) (ht : ∀ f af, tbl f = some af → compFunc P f = some af) (ho : CallOkL P orc) {N : Nat} :
    ∀ {D : Nat} (yf : CallL) (Y : YEnv), YFOkL yf Y → ∀ f args σ L, evCallYL tbl orc N D yf f args σ = some L → ACallsY P Y f args σ fun u τ => (u, τ) ∈ L := by
  intro D
  induction D with
  | zero => intro yf Y hy f args σ L h; simp [evCallYL] at h
  | succ D ih =>
    intro yf Y hy f args σ L h
    have hcall : CallOkL P (evCallYL tbl orc N D noCallL) := fun f args σ L h => (ih _ _ .no f args σ L h).plain
    simp only [evCallYL] at h
    split at h
    · rename_i af hf
      have hcf := ht _ _ hf
      split at h
      · rename_i hlen
        refine .of_func hm hcf (Nat.le_of_ble_eq_true hlen) ?_
        obtain ⟨l, h1, h2⟩ := bindL_mem h
        refine evCodeL_ok hcall (evRngL_ok ih) hy (Nat.le_refl _) h1 fun r hr => ?_
        obtain ⟨m, h3, h4⟩ := h2 r hr
        obtain ⟨e, t1, σ1⟩ := r
        cases e with
        | normal =>
          simp only at h3
          split at h3
          · rename_i l hl
            cases h3
            simp only [retPost, hl]
            exact h4 _ (List.mem_singleton.2 rfl)
          · cases h3
        | ret =>
          simp only at h3
          split at h3
          · rename_i l hl
            cases h3
            simp only [retPost, hl]
            exact h4 _ (List.mem_singleton.2 rfl)
          · cases h3
        | _ => cases h3
      · cases h
    · exact (ho _ _ _ _ h).any
theorem noCallL_ok : CallOkL P noCallL := fun f args σ L h => by cases h
def runsAll (P : Program) (N D f : Nat) (args : List AV) (c : AV) : Bool :=
  match evCallL (compFunc P) noCallL N D f args ⟨.leaf, 0⟩ with
  | some l => l.all fun r => AV.eqb r.1 c
  | none => false
theorem ACalls.runsAll {f : Nat} {args : List AV} {c : AV} (hm : P.follows .mixedOrders = true) (N D : Nat) (h : runsAll P N D f args c = true) (ha : args.all AV.scal = true) (hc : c.scal = true) (σ : Mem) :
    ACalls P f args σ fun v σ' => v = c ∧ σ' = σ := by
  unfold Go.Vit.runsAll at h
  split at h
  · rename_i l he
    refine ACalls.closed (((evCallYL_ok hm (fun _ _ h => h) noCallL_ok _ _ .no _ _ _ _ he).plain).mono fun u τ hu => ?_) ha hc σ
    exact AV.eqb_eq _ _ (List.all_eq_true.1 h _ hu)
  · cases h
end
end Go.Vit
end

section
namespace Go.Vit
theorem tiles_find : ∀ {os : List (Nat × Nat)} {off tot i : Nat}, tiles off tot os = true → off ≤ i → i < tot → ∃ p ∈ os, p.1 ≤ i ∧ i < p.1 + p.2
  | [], off, tot, i, h, h1, h2 => by
    have := Nat.eq_of_beq_eq_true h
    omega
  | q :: r, off, tot, i, h, h1, h2 => by
    simp only [tiles, Bool.and_eq_true] at h
    have e := Nat.eq_of_beq_eq_true h.1
    by_cases hi : i < off + q.2
    · exact ⟨q, by simp, by omega, by omega⟩
    · obtain ⟨p, hp, h3⟩ := tiles_find h.2 (by omega) h2
      exact ⟨p, by simp [hp], h3⟩
theorem Wt.ones {P : Program} {σ : Mem} : ∀ {n : Nat} {t : TypeId} {c : List AV}, impT P n t = true → Wt P σ t c → ∀ a ∈ c, a.one = true
  | 0, t, c, h, _ => by simp [impT] at h
  | n + 1, t, c, h, hw => by
    cases hw with
    | bool b h => intro a ha; rw [List.mem_singleton.1 ha]; rfl
    | int h hn => intro a ha; rw [List.mem_singleton.1 ha]; rfl
    | str h hs => intro a ha; rw [List.mem_singleton.1 ha]; rfl
    | nils h => intro a ha; rw [List.mem_singleton.1 ha]; rfl
    | slice h hg hn hc he => intro a ha; rw [List.mem_singleton.1 ha]; rfl
    | struct hu hc he =>
      unfold impT at h
      rw [hu] at h
      simp only [Bool.and_eq_true, List.all_eq_true] at h
      intro a ha
      obtain ⟨i, hi, rfl⟩ := List.getElem_of_mem ha
      obtain ⟨p, hp, h1, h2⟩ := tiles_find h.1 (Nat.zero_le i) (by omega)
      obtain ⟨f, hf, rfl⟩ := List.mem_map.1 hp
      refine Wt.ones (h.2 f hf) (he f hf) _ ?_
      dsimp only at h1 h2
      refine List.mem_of_getElem? (i := i - f.offset) ?_
      rw [List.getElem?_take, if_pos (by omega), List.getElem?_drop, show f.offset + (i - f.offset) = i from by omega, List.getElem?_eq_getElem hi]
    | array hu hc he =>
      rename_i e k
      unfold impT at h
      rw [hu] at h
      simp only [Bool.and_eq_true] at h
      have hk := Nat.eq_of_beq_eq_true h.1
      intro a ha
      obtain ⟨i, hi, rfl⟩ := List.getElem_of_mem ha
      have hpos : 0 < P.cellsOf e := by
        rcases Nat.eq_zero_or_pos (P.cellsOf e) with h0 | h0
        · rw [h0, Nat.mul_zero] at hk; omega
        · exact h0
      have hd := Nat.div_add_mod i (P.cellsOf e)
      have hm := Nat.mod_lt i hpos
      have hlt : i / P.cellsOf e < k := by
        rw [Nat.div_lt_iff_lt_mul hpos]; omega
      refine Wt.ones h.2 (he _ hlt) _ ?_
      refine List.mem_of_getElem? (i := i % P.cellsOf e) ?_
      rw [List.getElem?_take, if_pos hm, List.getElem?_drop, show i / P.cellsOf e * P.cellsOf e + i % P.cellsOf e = i from by rw [Nat.mul_comm]; exact hd, List.getElem?_eq_getElem hi]
theorem Wts.aggs {P : Program} {σ : Mem} {t : TypeId} {ts : List TypeId} {l : List AV} (n : Nat) (hi : impT P n t = true) (hu : aggT P t = true) (hc : ∀ c, Wt P σ t c → c.length = P.cellsOf t) (h : Wts P σ (t :: ts) l) :
    ∃ c r, l = .agg c :: r ∧ c.length = P.cellsOf t ∧ c.all AV.one = true ∧ Wt P σ t c ∧ Wts P σ ts r := by
  obtain ⟨c, r, rfl, hw, hr⟩ := h.agg hu
  exact ⟨c, r, rfl, hc c hw, List.all_eq_true.2 fun a ha => Wt.ones hi hw a ha, hw, hr⟩
theorem Wt.size {P : Program} {σ : Mem} {t : TypeId} {c : List AV} (hu : aggT P t = true) (h : Wt P σ t c) : c.length = P.cellsOf t := by
  cases h with
  | struct _ hc _ => exact hc
  | array _ hc _ => exact hc
  | bool b h => simp [aggT, h] at hu
  | int h _ => simp [aggT, h] at hu
  | str h _ => simp [aggT, h] at hu
  | nils h => simp [aggT, h] at hu
  | slice h _ _ _ _ => simp [aggT, h] at hu
theorem Wts.st {P : Program} {σ : Mem} {t : TypeId} {ts : List TypeId} {l : List AV} (n : Nat) (hi : impT P n t = true) (hu : aggT P t = true) (h : Wts P σ (t :: ts) l) :
    ∃ c r, l = .agg c :: r ∧ c.length = P.cellsOf t ∧ c.all AV.one = true ∧ Wt P σ t c ∧ Wts P σ ts r := h.aggs n hi hu fun _ => Wt.size hu
end Go.Vit
end

section
namespace Go.Vit
class Key (α : Type) [DecidableEq α] where
  enc : α → AV
  eq : ∀ a b, keyEq (enc a) (enc b) = some (decide (a = b))
instance : Key ByteArray := ⟨.str, fun a b => by
  show some (a.data.toList == b.data.toList) = _
  congr 1
  rcases a with ⟨a⟩
  rcases b with ⟨b⟩
  by_cases h : a = b
  · subst h; simp
  · have h1 : ByteArray.mk a ≠ ByteArray.mk b := fun e => h (by injection e)
    have h2 : a.toList ≠ b.toList := fun e => h (Array.toList_inj.1 e)
    rw [decide_eq_false h1]
    exact beq_false_of_ne h2⟩
instance : Key Int := ⟨.int .i64, fun a b => by
  show (if IntKind.i64 = IntKind.i64 then some (a == b) else none) = _
  rw [if_pos rfl]
  by_cases h : a = b
  · subst h; simp
  · simp [h]⟩
section
variable {α : Type} [DecidableEq α]
end
section
variable {α : Type} [DecidableEq α] [Key α]
end
end Go.Vit
end

section
namespace Go.Vit
theorem OwnS.sl {k n : Nat} {σ : Mem} {v : AV} {cs : List AV} (h : OwnS k σ v cs n) (hn : 0 < n) : ∃ b, v = .slice b 0 n (.op k) ∧ σ.get b = some (.rw cs) ∧ cs.length = n * k := by
  rcases h with ⟨_, h, _⟩ | h
  · omega
  · exact h
abbrev Tok := Int × Int × Int
def agr (s : ByteArray) (i d n : Nat) : Prop := i + n < s.size ∧ byteAt s (i + n) = byteAt s (i + n - d)
instance (s : ByteArray) (i d n : Nat) : Decidable (agr s i d n) := inferInstanceAs (Decidable (_ ∧ _))
def mlF (s : ByteArray) (i d : Nat) : Nat → Nat → Nat
  | 0, n => n
  | f + 1, n => if agr s i d n then mlF s i d f (n + 1) else n
def ml (s : ByteArray) (i d : Nat) : Nat := mlF s i d 258 0
def rb (s : ByteArray) (i : Nat) : Nat → Nat × Nat
  | 0 => (0, 0)
  | d + 1 => if (rb s i d).1 < ml s i (d + 1) then (ml s i (d + 1), d + 1) else rb s i d
def best (s : ByteArray) (i : Nat) : Nat × Nat := rb s i (min 512 i)
def tk (s : ByteArray) (i : Nat) : Tok × Nat :=
  if 3 ≤ (best s i).1 then ((0, (best s i).1, (best s i).2), i + (best s i).1) else (((byteAt s i : Nat), 0, 0), i + 1)
def pos (s : ByteArray) : Nat → Nat
  | 0 => 0
  | k + 1 => (tk s (pos s k)).2
end Go.Vit
end

section
namespace Go.Vit
def right (t : Tok) : Prop := if t.2.1 = 0 then t.2.2 = 0 ∧ 0 ≤ t.1 ∧ t.1 ≤ 255 else t.1 = 0 ∧ 3 ≤ t.2.1 ∧ t.2.1 ≤ 258 ∧ 1 ≤ t.2.2 ∧ t.2.2 ≤ 32768
instance (t : Tok) : Decidable (right t) := by unfold right; infer_instance
/-! ### What the tokens of bytes say -/
end Go.Vit
end

section
namespace Go.Vit
def ic (l : List Int) : List AV := l.map fun n => .int .i64 n
theorem ic_get {l : List Int} {i : Nat} (h : i < l.length) : (ic l)[i]? = some (.int .i64 l[i]) := by simp [ic, List.getElem?_eq_getElem h]
def arr (f : Nat → Int) (n : Nat) : List Int := (List.range n).map f
/-! ### How many codes there are of each length -/
def cN (L : List Int) (n : Nat) : Nat := L.countP fun (x : Int) => decide (0 < x ∧ x = (n : Int))
def many (L : List Int) : Nat := L.countP fun x => decide (0 < x)
def room (L : List Int) : Nat := (L.map fun x => if 0 < x then 2 ^ (15 - x).toNat else 0).sum
def lens (L : List Int) : Prop := L.length ≤ 288 ∧ ∀ x ∈ L, 0 ≤ x ∧ x ≤ 15
instance (L : List Int) : Decidable (lens L) := by unfold lens; infer_instance
def msum (c : Nat → Nat) : Nat → Nat
  | 0 => 0
  | k + 1 => msum c k + c k
def most (L : List Int) : Int := L.foldl (fun m x => if 0 < x then max m x else m) 0
end Go.Vit
end

section
namespace Go.Vit
def Own (k : Nat) (σ σ' : Mem) (v : AV) (cs : List AV) (n : Nat) : Prop := OwnS k σ' v cs n ∧ ∀ b ∈ blkOf v, σ.next ≤ b ∧ b < σ'.next
theorem Own.same {k n : Nat} {σ σ1 σ2 : Mem} {v : AV} {cs : List AV} (h : Own k σ σ1 v cs n) (s : σ1.Same σ2) : Own k σ σ2 v cs n :=
  ⟨h.1.keep fun b hb => s.get b (h.2 b hb).2, fun b hb => ⟨(h.2 b hb).1, Nat.lt_of_lt_of_le (h.2 b hb).2 s.next⟩⟩
theorem Own.only {k n : Nat} {σ σ1 σ2 : Mem} {v : AV} {cs : List AV} {l : List Nat} (h : Own k σ σ1 v cs n) (s : Mem.Only l σ1 σ2) (hl : ∀ b ∈ blkOf v, b ∉ l) : Own k σ σ2 v cs n :=
  ⟨h.1.keep fun b hb => s.get b (h.2 b hb).2 (hl b hb), fun b hb => ⟨(h.2 b hb).1, Nat.lt_of_lt_of_le (h.2 b hb).2 s.next⟩⟩
theorem Own.nil (k : Nat) (σ σ' : Mem) : Own k σ σ' .nils [] 0 := ⟨.nil k σ', fun b hb => by simp [blkOf] at hb⟩
theorem Own.push {k bytes id nb n m j : Nat} {σ σ1 : Mem} {v : AV} {cs c : List AV} {K : AV → Mem → Prop} (h : Own k σ σ1 v cs n) (s : σ.Same σ1) {σ2 : Mem} (hσ2 : σ2 = (σ1.bump j).put nb (some (.rw c))) (hnb : σ1.next ≤ nb) (hid : nb < id) (hm : m ≠ 0) (hc : c.length = m * k)
    (h1 : c.all AV.one = true) (h2 : cs.all AV.one = true) (hr : (n + m) * bytes ≤ 140737488355328 ∧ n + m ≤ 9223372036854775806) {c' : Cap}
    (hk : ∀ v' σ', Own k σ σ' v' (cs ++ c) (n + m) → σ.Same σ' → id < σ'.next → Mem.Only (blkOf v) σ1 σ' → (∀ b ∈ blkOf v', b ∈ blkOf v ∨ b = id) → K v' σ')(hlt : id < σ2.next) : apW k bytes id σ2 v (.slice nb 0 m c') K := by
  subst hσ2
  refine OwnS.append (n := n) (m := m) (cs := cs) (c := c) (h.1.keep fun b hb => by rw [Mem.get_put_ne _ (by have := (h.2 b hb).2; omega)]; rfl) (fun K hK => src_new (Mem.get_put_self _ _ _) hc rfl K hK) (fun h => absurd h hm) hc h1 h2 hr (fun hb => by have := (h.2 _ hb).2; omega) ?_
  intro v' σ3 own3 hn3 hg3 hb3
  rw [Mem.next_put, Mem.next_bump] at hn3 hlt
  have o : Mem.Only (blkOf v) σ1 σ3 := ⟨by omega, fun b hb hn => by rw [hg3 b hn (by omega), Mem.get_put_ne _ (by omega)]; rfl⟩
  refine hk v' σ3 ⟨own3, fun b hb => ?_⟩ ⟨Nat.le_trans s.next o.next, fun b hb => ?_⟩ (by omega) o hb3
  · rcases hb3 b hb with h' | rfl
    · have := h.2 b h'; omega
    · have := s.next; omega
  · rw [o.get b (Nat.lt_of_lt_of_le hb s.next) fun h' => by have := h.2 b h'; omega]
    exact s.get b hb
def RdS (k : Nat) (σ : Mem) (v : AV) (cs : List AV) (n : Nat) : Prop :=
  (v = .nils ∧ n = 0 ∧ cs = []) ∨ ∃ b c, v = .slice b 0 n c ∧ (∃ q, σ.get b = some q ∧ q.cellsR = some cs) ∧ cs.length = n * k
theorem RdS.len {k n : Nat} {σ : Mem} {v : AV} {cs : List AV} (h : RdS k σ v cs n) {K : Int → Prop} (hk : K (n : Nat)) : slenW v K := by
  rcases h with ⟨rfl, rfl, rfl⟩ | ⟨b, c, rfl, _⟩ <;> exact hk
theorem RdS.pos {k n : Nat} {σ : Mem} {v : AV} {cs : List AV} (h : RdS k σ v cs n) (hn : 0 < n) : ∃ b c, v = .slice b 0 n c ∧ (∃ q, σ.get b = some q ∧ q.cellsR = some cs) ∧ cs.length = n * k := by
  rcases h with ⟨_, h, _⟩ | h
  · omega
  · exact h
theorem RdS.keep {k n : Nat} {σ σ' : Mem} {v : AV} {cs : List AV} (h : RdS k σ v cs n) (hb : ∀ b ∈ blkOf v, σ'.get b = σ.get b) : RdS k σ' v cs n := by
  rcases h with h | ⟨b, c, rfl, ⟨q, h1, h2⟩, h3⟩
  · exact .inl h
  · exact .inr ⟨b, c, rfl, ⟨q, (hb b (by simp [blkOf])).trans h1, h2⟩, h3⟩
theorem RdS.lt {k n : Nat} {σ : Mem} {v : AV} {cs : List AV} (h : RdS k σ v cs n) (live : σ.Live) : ∀ b ∈ blkOf v, b < σ.next := by
  rcases h with ⟨rfl, _⟩ | ⟨b, c, rfl, ⟨q, h1, h2⟩, h3⟩
  · intro b hb; simp [blkOf] at hb
  · intro c hc; simp [blkOf] at hc; subst hc; exact live.lt h1
theorem Grow.same {o o' : List Nat} {σ σ1 σ2 : Mem} (h : Grow o o' σ1 σ2) (s : σ.Same σ1) (ho : ∀ b ∈ o, σ.next ≤ b) : σ.Same σ2 ∧ ∀ b ∈ o', σ.next ≤ b := by
  refine ⟨⟨Nat.le_trans s.next h.only.next, fun b hb => ?_⟩, fun b hb => ?_⟩
  · refine (h.only.get b (Nat.lt_of_lt_of_le hb s.next) fun hm => ?_).trans (s.get b hb)
    have := ho b hm; omega
  · rcases h.new b hb with h1 | h1
    · exact ho b h1
    · exact Nat.le_trans s.next h1
/-! ### Arguments -/
section
variable {P : Program} {σ : Mem}
end
end Go.Vit
end

section
namespace Go.Vit
def fc (L : List Int) : Nat → Nat
  | 0 => 0
  | n + 1 => (fc L n + cN L n) * 2
def cd (L : List Int) (i : Nat) : Nat := if 0 < L.getD i 0 then fc L (L.getD i 0).toNat + cN (L.take i) (L.getD i 0).toNat else 0
def codes (L : List Int) : List Int := arr (fun i => (cd L i : Nat)) L.length
end Go.Vit
end

section
namespace Go.Vit
section
variable {α : Type} (key : α → Int)
def Stb (l l' : List α) : Prop := l'.length = l.length ∧ ∀ v : Int, l'.filter (fun x => decide (key x = v)) = l.filter (fun x => decide (key x = v))
def Srt (l : List α) : Prop := l.Pairwise fun x y => key x ≤ key y
variable {key}
theorem Stb.refl (l : List α) : Stb key l l := ⟨rfl, fun _ => rfl⟩
theorem Stb.trans {a b c : List α} (h : Stb key a b) (g : Stb key b c) : Stb key a c := ⟨g.1.trans h.1, fun v => (g.2 v).trans (h.2 v)⟩
theorem Stb.append {a a' b b' : List α} (h : Stb key a a') (g : Stb key b b') : Stb key (a ++ b) (a' ++ b') :=
  ⟨by rw [List.length_append, List.length_append, h.1, g.1], fun v => by rw [List.filter_append, List.filter_append, h.2 v, g.2 v]⟩
theorem Stb.mem {a b : List α} (h : Stb key a b) (x : α) : x ∈ b ↔ x ∈ a := by
  have e := h.2 (key x)
  have h1 : x ∈ b.filter (fun y => decide (key y = key x)) ↔ x ∈ b := by rw [List.mem_filter]; simp
  have h2 : x ∈ a.filter (fun y => decide (key y = key x)) ↔ x ∈ a := by rw [List.mem_filter]; simp
  rw [← h1, ← h2, e]
theorem Srt.append {a b : List α} (ha : Srt key a) (hb : Srt key b) (h : ∀ x ∈ a, ∀ y ∈ b, key x ≤ key y) : Srt key (a ++ b) := List.pairwise_append.2 ⟨ha, hb, h⟩
theorem Srt.right {a b : List α} (h : Srt key (a ++ b)) : Srt key b := (List.pairwise_append.1 h).2.1
theorem Srt.rel {a b : List α} (h : Srt key (a ++ b)) : ∀ x ∈ a, ∀ y ∈ b, key x ≤ key y := (List.pairwise_append.1 h).2.2
theorem Srt.lt_succ {l : List α} (h : Srt key l) (n : Int) : l.filter (fun x => decide (key x < n + 1)) = l.filter (fun x => decide (key x < n)) ++ l.filter (fun x => decide (key x = n)) := by
  induction l with
  | nil => rfl
  | cons x l ih =>
    have hx : ∀ y ∈ l, key x ≤ key y := (List.pairwise_cons.1 h).1
    have ih := ih (List.pairwise_cons.1 h).2
    rcases Int.lt_trichotomy (key x) n with hlt | heq | hgt
    · rw [List.filter_cons_of_pos (by simp; omega), List.filter_cons_of_pos (by simp; omega), List.filter_cons_of_neg (by simp; omega), ih]; rfl
    · have e : (x :: l).filter (fun x => decide (key x < n)) = [] := by
        rw [List.filter_eq_nil_iff]
        intro y hy
        rcases List.mem_cons.1 hy with rfl | hy
        · simp; omega
        · have := hx y hy; simp; omega
      have e' : l.filter (fun x => decide (key x < n)) = [] := by
        rw [List.filter_eq_nil_iff]
        intro y hy
        have := hx y hy; simp; omega
      rw [e, List.filter_cons_of_pos (by simp; omega), List.filter_cons_of_pos (by simp; omega), ih, e']; rfl
    · have e1 : ∀ p : α → Bool, (∀ y, p y = true → key y ≤ n) → (x :: l).filter p = [] := by
        intro p hp
        rw [List.filter_eq_nil_iff]
        intro y hy h'
        have h2 := hp y h'
        rcases List.mem_cons.1 hy with rfl | hy
        · omega
        · have := hx y hy; omega
      rw [e1 _ fun y h => by have := of_decide_eq_true h; omega, e1 _ fun y h => by have := of_decide_eq_true h; omega, e1 _ fun y h => by have := of_decide_eq_true h; omega]; rfl
theorem Srt.at {l : List α} (h : Srt key l) {n : Int} {k : Nat} {x : α} (hk : (l.filter (fun x => decide (key x = n)))[k]? = some x) : l[(l.filter (fun x => decide (key x < n))).length + k]? = some x := by
  have e : l = l.filter (fun x => decide (key x < n + 1)) ++ l.filter (fun x => !decide (key x < n + 1)) := by
    clear hk
    induction l with
    | nil => rfl
    | cons y l ih =>
      have hx : ∀ z ∈ l, key y ≤ key z := (List.pairwise_cons.1 h).1
      have ih := ih (List.pairwise_cons.1 h).2
      by_cases hy : key y < n + 1
      · rw [List.filter_cons_of_pos (by simp; omega), List.filter_cons_of_neg (by simp; omega), List.cons_append, ← ih]
      · have e' : l.filter (fun x => decide (key x < n + 1)) = [] := by
          rw [List.filter_eq_nil_iff]
          intro z hz
          have := hx z hz; simp; omega
        rw [e', List.nil_append] at ih
        rw [List.filter_cons_of_neg (by simp; omega), List.filter_cons_of_pos (by simp; omega), e', List.nil_append, ← ih]
  rw [h.lt_succ] at e
  have hlt := (List.getElem?_eq_some_iff.1 hk).1
  generalize l.filter (fun x => decide (key x < n)) = a at e ⊢
  generalize l.filter (fun x => decide (key x = n)) = b at e hk hlt
  generalize l.filter (fun x => !decide (key x < n + 1)) = c at e
  rw [e]
  rw [List.append_assoc, List.getElem?_append_right (Nat.le_add_right _ _), Nat.add_sub_cancel_left, List.getElem?_append_left hlt]
  exact hk
/-! ### Exchanging -/
end
end Go.Vit
end

section
namespace Go.Vit
end Go.Vit
end

section
namespace Go.Vit
def fnd (L : List Int) (n c : Nat) : Option Nat := (List.range L.length).find? fun i => decide (L.getD i 0 = n ∧ cd L i = c)
def dec (L : List Int) (s : ByteArray) : Nat → Nat → Nat → Nat → Int × Int × Nat
  | 0, _, _, at' => (0, 12, at')
  | k + 1, n, c, at' => if 8 * s.size ≤ at' then (0, 3, at') else match fnd L n (2 * c + bitAt s at') with
    | some i => ((i : Nat), 0, at' + 1)
    | none => dec L s k (n + 1) (2 * c + bitAt s at') (at' + 1)
end Go.Vit
end

section
namespace Go.Vit
end Go.Vit
end

section
namespace Go.Vit
def RdO (k : Nat) (σ : Mem) (v : AV) (cs : List AV) (n : Nat) : Prop :=
  (v = .nils ∧ n = 0 ∧ cs = []) ∨ ∃ b z c, v = .slice b z n c ∧ cs.length = n * k ∧ ∃ q cells, σ.get b = some q ∧ q.cellsR = some cells ∧ (cells.drop z).take (n * k) = cs ∧ z + n * k ≤ cells.length
theorem RdO.mk {k n b : Nat} {c : Cap} {σ : Mem} {v : AV} {cs : List AV} (hv : v = .slice b 0 n c) (hg : ∃ q, σ.get b = some q ∧ q.cellsR = some cs) (hl : cs.length = n * k) : RdO k σ v cs n := by
  obtain ⟨q, h1, h2⟩ := hg
  exact .inr ⟨b, 0, c, hv, hl, q, cs, h1, h2, by rw [List.drop_zero, ← hl, List.take_length], by omega⟩
theorem RdS.o {k n : Nat} {σ : Mem} {v : AV} {cs : List AV} (h : RdS k σ v cs n) : RdO k σ v cs n := by
  rcases h with h | ⟨b, c, h1, h2, h3⟩
  · exact .inl h
  · exact .mk h1 h2 h3
theorem RdO.len {k n : Nat} {σ : Mem} {v : AV} {cs : List AV} (h : RdO k σ v cs n) {K : Int → Prop} (hk : K (n : Nat)) : slenW v K := by
  rcases h with ⟨rfl, rfl, rfl⟩ | ⟨b, z, c, rfl, _⟩ <;> exact hk
theorem RdO.keep {k n : Nat} {σ σ' : Mem} {v : AV} {cs : List AV} (h : RdO k σ v cs n) (hb : ∀ b ∈ blkOf v, σ'.get b = σ.get b) : RdO k σ' v cs n := by
  rcases h with h | ⟨b, z, c, rfl, h3, q, cells, h1, h2⟩
  · exact .inl h
  · exact .inr ⟨b, z, c, rfl, h3, q, cells, (hb b (by simp [blkOf])).trans h1, h2⟩
theorem RdO.lt {k n : Nat} {σ : Mem} {v : AV} {cs : List AV} (h : RdO k σ v cs n) (live : σ.Live) : ∀ b ∈ blkOf v, b < σ.next := by
  rcases h with ⟨rfl, _⟩ | ⟨b, z, c, rfl, h3, q, cells, h1, _⟩
  · intro b hb; simp [blkOf] at hb
  · intro c hc; simp [blkOf] at hc; subst hc; exact live.lt h1
theorem RdO.iat {σ : Mem} {v : AV} {L : List Int} {n : Nat} (h : RdO 1 σ v (ic L) n) {i : Nat} {x : Int} (hx : L[i]? = some x) (hn : i < n) (_ : i < L.length) : ∃ b z c, v = .slice b z n c ∧ ∀ {K : AV → Prop} (m : Nat), K (.int .i64 x) → ldW (σ.bump m) (.ptr b (z + i)) K := by
  rcases h with ⟨_, rfl, _⟩ | ⟨b, z, c, rfl, h3, q, cells, h1, h2, h4, h5⟩
  · omega
  · refine ⟨b, z, c, rfl, fun m hk => ldq (σ := σ.bump m) h1 ?_ hk⟩
    rw [h2]
    show cells[z + i]? = _
    have e : (ic L)[i]? = some (.int .i64 x) := by
      have hi := (List.getElem?_eq_some_iff.1 hx).1
      rw [ic_get hi]
      rw [List.getElem?_eq_getElem hi] at hx
      injection hx with hx
      rw [hx]
    rw [← h4, List.getElem?_take_of_lt (by omega), List.getElem?_drop] at e
    exact e
theorem RdO.at {σ : Mem} {v : AV} {L : List Int} (h : RdO 1 σ v (ic L) L.length) {i : Nat} (hi : i < L.length) : ∃ b z c, v = .slice b z L.length c ∧ ∀ {K : AV → Prop} (n : Nat), K (.int .i64 L[i]) → ldW (σ.bump n) (.ptr b (z + i)) K :=
  h.iat (List.getElem?_eq_getElem hi) hi hi
theorem RdO.take {σ : Mem} {b n k : Nat} {c c' : Cap} {L : List Int} (h : RdO 1 σ (.slice b 0 n c) (ic L) n) (hk : k ≤ n) : RdO 1 σ (.slice b 0 k c') (ic (L.take k)) k := by
  rcases h with ⟨h, _⟩ | ⟨b', z, c', e, h3, q, cells, h1, h2, h4, h5⟩
  · exact absurd h (by simp)
  · injection e with e1 e2
    subst e1 e2
    rw [List.drop_zero] at h4
    have hl : (ic (L.take k)) = (ic L).take k := by unfold ic; rw [List.map_take]
    refine .inr ⟨b, 0, _, rfl, ?_, q, cells, h1, h2, ?_, by omega⟩
    · rw [hl, List.length_take, h3]; omega
    · rw [hl, ← h4, List.drop_zero, List.take_take, Nat.min_eq_left (by omega)]
      congr 1; omega
theorem RdO.drop {σ : Mem} {b n k : Nat} {c c' : Cap} {L : List Int} (h : RdO 1 σ (.slice b 0 n c) (ic L) n) (hk : k ≤ n) : RdO 1 σ (.slice b k (n - k) c') (ic (L.drop k)) (n - k) := by
  rcases h with ⟨h, _⟩ | ⟨b', z, c', e, h3, q, cells, h1, h2, h4, h5⟩
  · exact absurd h (by simp)
  · injection e with e1 e2
    subst e1 e2
    rw [List.drop_zero] at h4
    have hl : (ic (L.drop k)) = (ic L).drop k := by unfold ic; rw [List.map_drop]
    refine .inr ⟨b, k, _, rfl, ?_, q, cells, h1, h2, ?_, by omega⟩
    · rw [hl, List.length_drop, h3]; omega
    · rw [hl, ← h4, List.drop_take]
      congr 1; omega
end Go.Vit
end

section
namespace Go.Vit
variable {P : Program} {σ : Mem}
end Go.Vit
end

section
namespace Go.Vit
inductive Pm where
  | coin (n : Int) (s : Nat)
  | pair (a b : Pm)
def Pm.wt : Pm → Int
  | .coin n _ => n
  | .pair a b => a.wt + b.wt
def Pm.sz : Pm → Nat
  | .coin _ _ => 1
  | .pair a b => a.sz + b.sz
/-! ### What is sorted -/
section
variable {α : Type} {key : α → Int}
end
section
variable {α β : Type} {key : α → Int} {key' : β → Int} {f : α → β}
theorem filter_map_key {l : List α} (h : ∀ x ∈ l, key' (f x) = key x) (v : Int) : (l.map f).filter (fun x => decide (key' x = v)) = (l.filter fun x => decide (key x = v)).map f := by
  induction l with
  | nil => rfl
  | cons a l ih =>
    have ha := h a (by simp)
    have ih := ih fun x hx => h x (by simp [hx])
    rw [List.map_cons]
    by_cases hk : key a = v
    · rw [List.filter_cons_of_pos (by simp [ha, hk]), List.filter_cons_of_pos (by simp [hk]), List.map_cons, ih]
    · rw [List.filter_cons_of_neg (by simp [ha, hk]), List.filter_cons_of_neg (by simp [hk]), ih]
theorem Stb.map {X C : List α} (h : Stb key X C) (hk : ∀ x ∈ X, key' (f x) = key x) : Stb key' (X.map f) (C.map f) := by
  refine ⟨by rw [List.length_map, List.length_map, h.1], fun v => ?_⟩
  rw [filter_map_key hk, filter_map_key fun x hx => hk x ((h.mem x).1 hx), h.2 v]
theorem Srt.map {C : List α} (h : Srt key C) (hk : ∀ x ∈ C, key' (f x) = key x) : Srt key' (C.map f) := by
  unfold Srt at h ⊢
  rw [List.pairwise_map]
  exact h.imp_of_mem fun {a b} ha hb hab => by rw [hk a ha, hk b hb]; exact hab
end
def insA (x : Pm) : List Pm → List Pm
  | [] => [x]
  | y :: l => if y.wt ≤ x.wt then y :: insA x l else x :: y :: l
def isort (X : List Pm) : List Pm := X.foldl (fun acc x => insA x acc) []
/-! ### Rows -/
def coinsTo (L : List Int) (i : Nat) : List Pm := ((List.range i).filter fun j => decide (0 < L.getD j 0)).map fun j => Pm.coin (L.getD j 0) j
def coinsOf (L : List Int) : List Pm := coinsTo L L.length
end Go.Vit
end

section
namespace Go.Vit
/-! ### Rows are merged -/
/-! ### Pairs of what is sorted are sorted -/
end Go.Vit
end

section
namespace Go.Vit
def ln (cs : List Nat) (q : Nat) : Nat := cs.countP fun c => decide (q < c)
end Go.Vit
end

section
namespace Go.Vit
def Pm.sym : Pm → Nat
  | .coin _ s => s
  | .pair _ _ => 0
def srtC (L : List Int) : List Pm := isort (coinsOf L)
structure Lim (most : Nat) (L : List Int) (l : List Int) (cs : List Nat) : Prop where
  len : cs.length = most
  dec : cs.Pairwise fun a b => b ≤ a
  le : ∀ c ∈ cs, c ≤ (coinsOf L).length
  at' : ∀ q (h : q < (srtC L).length), l.getD ((srtC L)[q]).sym 0 = ln cs q
  no : ∀ i, ¬ 0 < L.getD i 0 → l.getD i 0 = 0
  sum : msum (fun q => 2 ^ (most - ln cs q)) (coinsOf L).length = 2 ^ most
  pos : ∀ q < (coinsOf L).length, 1 ≤ ln cs q
/-! ### The room that codes take -/
end Go.Vit
end

section
namespace Go.Vit
/-! ### A greater row is lighter, thing by thing -/
/-! ### What a list of things weighs -/
end Go.Vit
end

section
namespace Go.Vit
end Go.Vit
end

section
set_option linter.unusedSimpArgs false
namespace Go.Vit
theorem tpI_of {l : List AV} {i : Nat} {x : Int} {K : Int → Prop} (h : l[i]? = some (.int .i64 x)) (hk : K x) : tpI (.tup l) i K := by
  show optW l[i]? _
  rw [h]
  exact hk
theorem tupW_of {l : List AV} {i : Nat} {x : AV} {K : AV → Prop} (h : l[i]? = some x) (hk : K x) : tupW (.tup l) i K := by
  show optW l[i]? _
  rw [h]
  exact hk
end Go.Vit
end
