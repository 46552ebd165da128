/- The law StoreNil. -/
import Derived.Test.YtomldponnggnfaaGreatVX18
import Derived.Test.YtomldponnggnfaaGreatVm3
import Derived.Test.YtomldponnggnfaaGreatVm4
set_option linter.unusedVariables false
set_option linter.unusedSimpArgs false
set_option linter.unusedSimpArgs false
set_option maxRecDepth 20000
set_option maxRecDepth 100000
namespace Go.Vit
open Go.Proofs
theorem tpS_of' {l : List AV} {i : Nat} {x : ByteArray} {K : ByteArray → Prop} (h : l[i]? = some (.str x)) (hk : K x) : tpS (.tup l) i K := by
  show optW l[i]? fun a => castS a K
  rw [h]; exact hk
theorem nil_lives {σ : Mem} : ACalls PG n_store_Store_lives [.nilp] σ fun v _ => v = .int .i64 2 := by
  refine ok_store_Store_lives fun _ => ?_
  unfold F_store_Store_lives
  refine To.go ?_
  exact ifT (p := True) trivial rfl
theorem law18_StoreNil (σ : Mem) (l : List AV) (_ : σ.Ro) (hw : Wts PG σ Tryz.f5.params.toList l) : ACalls PG n_law18_StoreNil l σ fun v _ => isTrue v := by
  rw [Tryz.params5] at hw
  obtain ⟨s, r, rfl, hs, hw⟩ := hw.str (by kernel_rfl)
  obtain rfl := hw.nil_inv
  refine ok_law18_StoreNil fun live => ?_
  unfold F_law18_StoreNil
  refine callW_of (Q := fun v σ' => v = .tup [.agg [.int .i64 0, .int .i64 0], .str ⟨#[]⟩, .nils, .int .i64 2] ∧ (σ.bump 15).Same σ') ?_ ?_
  · refine ok_store_Store_Get fun _ => ?_
    unfold F_store_Store_Get
    refine To.go ?_
    refine To.go ?_
    refine ifT (p := True) trivial ?_
    refine stn (gB gS') (by decide) rfl rfl ?_
    refine ldnq gS' rfl (by decide) ?_
    exact ⟨rfl, Mem.Same.put (Mem.Same.bump (Mem.Same.put ((Mem.Same.refl _).bump _) (Nat.le_refl _) _) _) (Nat.le_refl _) _⟩
  rintro _ σ1 ⟨rfl, s1⟩
  refine tupW_of rfl ?_
  refine tpS_of' rfl ?_
  refine tupW_of rfl ?_
  refine tpI_of rfl ?_
  refine To.go ?_
  refine stn gS' (by decide) rfl rfl ?_
  refine callW_of (Q := fun v _ => v = .tup [.nilp, .int .i64 2]) ?_ ?_
  · refine ok_store_Open fun _ => ?_
    unfold F_store_Open
    refine callW_of (Q := fun v _ => v = .tup [.nilp, .nils, .int .i64 2]) ?_ ?_
    · refine ok_seglog_Open fun _ => ?_
      unfold F_seglog_Open
      refine To.go ?_
      exact ifT (p := True) trivial rfl
    rintro _ σ2 rfl
    refine tupW_of rfl ?_
    refine tupW_of rfl ?_
    refine tpI_of rfl ?_
    exact ifT (by decide) rfl
  rintro _ σ2 rfl
  refine tupW_of rfl ?_
  refine tpI_of rfl ?_
  refine callW_of (Q := fun v _ => v = .int .i64 2) ?_ ?_
  · refine ok_store_Store_Put fun _ => ?_
    unfold F_store_Store_Put
    refine And.intro rfl ?_
    refine To.go ?_
    refine callW_of nil_lives ?_
    rintro _ σ3 rfl
    refine To.go ?_
    exact ifT (by decide) rfl
  rintro _ σ3 rfl
  refine To.go ?_
  refine ifT rfl ?_
  refine callW_of (Q := fun v _ => v = .int .i64 2) ?_ ?_
  · refine ok_store_Store_Compact fun _ => ?_
    unfold F_store_Store_Compact
    refine callW_of nil_lives ?_
    rintro _ σ3 rfl
    refine To.go ?_
    exact ifT (by decide) rfl
  rintro _ σ4 rfl
  refine To.go ?_
  refine ifT rfl ?_
  refine ifT rfl ?_
  refine callW_of (Q := fun v _ => v = .nils) ?_ ?_
  · refine ok_store_Store_Entries fun _ => ?_
    unfold F_store_Store_Entries
    refine To.go ?_
    exact ifT (p := True) trivial rfl
  rintro _ σ5 rfl
  refine To.go ?_
  refine ifT rfl ?_
  refine callW_of (Q := fun v _ => v = .int .i64 0) ?_ ?_
  · refine ok_store_Store_Bands fun _ => ?_
    unfold F_store_Store_Bands
    refine To.go ?_
    exact ifT (p := True) trivial rfl
  rintro _ σ6 rfl
  refine To.go ?_
  refine ifT rfl ?_
  refine callW_of (Q := fun v _ => v = .bool false) ?_ ?_
  · refine ok_store_Store_Has fun _ => ?_
    unfold F_store_Store_Has
    refine To.go ?_
    exact ifT (p := True) trivial rfl
  rintro _ σ7 rfl
  refine To.go ?_
  refine ifI (fun _ => ?_) (fun h => by cases h)
  refine To.go ?_
  refine ifT (p := True) trivial ?_
  refine ifT rfl ?_
  refine callW_of (law18_awake _) ?_
  rintro _ σ8 ⟨rfl, _⟩
  exact rfl
end Go.Vit
