/- A disk: the numbers of its files, in some order. -/
import Derived.Test.YtgdaiahnceaieaaV9G
import Derived.Test.YtgdaiahnceaieaaVm3
set_option linter.unusedVariables false
set_option linter.unusedSimpArgs false
set_option linter.unusedSimpArgs false
set_option maxRecDepth 20000
namespace Go.Vit
open Go.Proofs
theorem callvY_one {P : Program} {b : Nat} {T : YT} {args : List AV} {σ : Mem} {K K' : AV → Mem → Prop} (h : T args σ K') (hk : ∀ v σ', K' v σ' → K v σ') : callvY P (oneY b T) (.yld b) args σ K := by
  have e : oneY b T b = some T := by unfold oneY; rw [if_pos rfl]
  unfold callvY
  dsimp only
  rw [e]
  exact ⟨K', h, hk⟩
def isIter (o : Option Blk) : Prop := o = none ∨ ∃ a b c d, o = some (.iter a b c d)
theorem keys_range {c m clock : Nat} {fs : List Ent} {σ : Mem} {T : YT} {K : Mem → Prop} {J : List Ent → Mem → Prop} (hb : ∀ e ∈ fs, e.2.2 < clock) (hn : (fs.map (·.2.2)).Nodup) (live : ∀ b k, σ.get b = some k → b < σ.next)
    (hJ : ∀ L σ', J L σ' → σ'.get c = some (.rw [.map m]) ∧ σ'.get m = some (.map (fs.map entA) clock)) (hJb : ∀ L σ' k, J L σ' → J L (σ'.bump k)) (hJp : ∀ L σ' it q, J L σ' → isIter (σ'.get it) → σ.next ≤ it → it < σ'.next → J L (σ'.put it (some q))) (h0 : J [] σ)
    (hT : ∀ L e σ' it, J L σ' → e ∈ fs → L.length + 1 ≤ fs.length → (∃ a b c d, σ'.get it = some (.iter a b c d)) → it < σ'.next → T [.int .i64 e.1] σ' (fun v σ'' => v = .bool true ∧ J (L ++ [e]) σ'' ∧ σ''.get it = σ'.get it ∧ it < σ''.next))
    (hK : ∀ L σ', L.Perm fs → J L σ' → K σ') : rangeW PG (.func n_maps_Keys_map_int_disk_file_int_disk_file__1 [.ptr c 0]) T σ K := by
  show ACallsY PG (oneY σ.next T) n_maps_Keys_map_int_disk_file_int_disk_file__1 (.yld σ.next :: [.ptr c 0]) (σ.bump 1) fun _ σ' => K σ'
  refine ok_maps_Keys_map_int_disk_file_int_disk_file__1 fun _ => ?_
  unfold F_maps_Keys_map_int_disk_file_int_disk_file__1
  obtain ⟨gc, gm⟩ := hJ _ _ h0
  refine ldrw (σ := (σ.bump 1).bump 2) gc (v := .map m) rfl ?_
  refine rangeM_step (σ := (σ.bump 1).bump 2) gm ?_
  refine To.go ?_
  obtain ⟨it, hit⟩ : ∃ it, (σ.bump 1).next + 1 = it := ⟨_, rfl⟩
  have hit' : it = σ.next + 2 := by rw [← hit]; rfl
  rw [hit]
  have hnone : σ.get it = none := by
    cases hg : σ.get it with
    | none => rfl
    | some k => have := live it k hg; omega
  refine loop0 (fun (L : List Ent) σ' => (∀ e ∈ L, e ∈ fs) ∧ (L.map (·.2.2)).Nodup ∧ J L σ' ∧ it < σ'.next ∧ σ'.get it = some (.iter (some m) clock (L.map (·.2.2)) clock)) (fun L => fs.length - L.length) [] ⟨by simp, by simp, hJp _ _ _ _ (hJb _ _ _ (hJb _ _ _ h0)) (.inl hnone) (by omega) (by simp only [Mem.next_bump]; omega), by simp only [Mem.next_put, Mem.next_bump]; omega, gS'⟩ ?_
  rintro L σ1 ⟨hL, hLn, hj, n1, hi⟩
  unfold F_maps_Keys_map_int_disk_file_int_disk_file__1_l1
  rw [hit]
  obtain ⟨_, gm1⟩ := hJ _ _ hj
  refine nextM_step (σ := σ1.bump 2) hi gm1 (fun e he => ?_) (Nat.le_refl _) (fun hall => ?_) (fun e he hns => ?_)
  · obtain ⟨x, hx, rfl⟩ := List.mem_map.1 he
    exact hb x hx
  · refine tpB_of rfl ?_
    refine ifF (p := False) id ?_
    have hp := all_seen (f := fun e : Ent => e.2.2) hL hLn hn fun x hx => hall (entA x) (List.mem_map_of_mem hx)
    exact hK L _ hp (hJb _ _ _ hj)
  · obtain ⟨x, hx, rfl⟩ := List.mem_map.1 he
    refine tpB_of rfl ?_
    refine ifT (p := True) trivial ?_
    obtain ⟨σ2, h2⟩ : ∃ σ2, σ2 = (σ1.bump 2).put it (some (.iter (some m) clock (L.map (·.2.2) ++ [(entA x).2.2]) clock)) := ⟨_, rfl⟩
    rw [← h2]
    have hj2 : J L σ2 := by rw [h2]; exact hJp _ _ _ _ (hJb _ _ _ hj) (.inr ⟨_, _, _, _, hi⟩) (by omega) (by simp only [Mem.next_bump]; omega)
    have hi2 : σ2.get it = some (.iter (some m) clock (L.map (·.2.2) ++ [(entA x).2.2]) clock) := by rw [h2, gS']
    have n2 : σ2.next = σ1.next + 2 := by rw [h2]; rfl
    clear h2
    obtain ⟨_, gm2⟩ := hJ _ _ hj2
    refine entM_step (σ := σ2.bump 3) hi2 gm2 he (by rw [fs_born]; exact hn) ?_
    refine tpI_of rfl ?_
    have hLx : ((L ++ [x]).map (·.2.2)).Nodup := by
      rw [List.map_append, List.nodup_append]
      refine ⟨hLn, by simp, fun a ha y hy => ?_⟩
      simp only [List.map_cons, List.map_nil, List.mem_singleton] at hy
      subst hy
      intro e; subst e
      exact hns ha
    have hLs : ∀ e ∈ L ++ [x], e ∈ fs := fun e he => by
      rcases List.mem_append.1 he with he | he
      · exact hL e he
      · rw [List.mem_singleton.1 he]; exact hx
    have hlen := len_sub hLs hLx
    rw [List.length_append] at hlen
    simp only [List.length_cons, List.length_nil] at hlen
    refine callvY_one (hT L x (σ2.bump 7) it (hJb _ _ _ hj2) hx hlen ⟨_, _, _, _, hi2⟩ (by simp only [Mem.next_bump]; omega)) ?_
    rintro _ σ3 ⟨rfl, hj3, hi3, n3⟩
    refine To.go ?_
    refine ifF (p := False) id ?_
    refine again ⟨L ++ [x], ⟨hLs, hLx, hj3, n3, ?_⟩, by rw [List.length_append]; simp only [List.length_cons, List.length_nil]; omega⟩
    rw [hi3]
    show σ2.get it = _
    rw [hi2, List.map_append]; rfl
end Go.Vit
