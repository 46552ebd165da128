/- The laws DeflateDynamic and DeflateBest. -/
import Derived.Test.YtcliekhikcaoiaaV5E
import Derived.Test.YtcliekhikcaoiaaV5LA
set_option linter.unusedVariables false
set_option linter.unusedSimpArgs false
set_option linter.unusedSimpArgs false
set_option maxRecDepth 20000
set_option maxRecDepth 20000
namespace Go.Vit
open Go.Proofs
theorem law05_DeflateBest (σ:Mem) (l:List AV) (_:σ.Ro) (hw:Wts PG σ Try.f7.params.toList l):ACalls PG n_law05_DeflateBest l σ fun v _=>isTrue v:=by
 obtain ⟨s,rfl,hs⟩:=args_s (show Wts PG σ [9] l by rw [Try.params7] at hw;exact hw)
 clear hw
 refine ok_law05_DeflateBest fun live=>?_
 unfold F_law05_DeflateBest
 refine callW_of (law05_few s _) ?_
 rintro _ σ1 ⟨rfl,s1⟩
 refine To.go ?_
 by_cases h:(s.size:Int)<=10000
 · rw [decide_eq_true h]
   refine ifF (p:=False) id ?_
   refine callW_of (deflate_Deflate (s:=s) (by omega)) ?_
   rintro _ σ2 ⟨⟨k,hk,rfl⟩,s2⟩
   refine To.go ?_
   refine callW_of (ref05_Deflate (s:=s) (by omega)) ?_
   rintro _ σ3 ⟨⟨k',hk',rfl⟩,s3⟩
   obtain rfl:=done_unique hk hk'
   refine To.go ?_
   refine ifT rfl ?_
   refine callW_of (law05_awake _) ?_
   rintro v σ4 ⟨rfl,_⟩
   exact rfl
 · rw [decide_eq_false h]
   refine ifT (p:=True) trivial ?_
   refine callW_of (law05_awake _) ?_
   rintro v σ2 ⟨rfl,_⟩
   exact rfl
end Go.Vit
