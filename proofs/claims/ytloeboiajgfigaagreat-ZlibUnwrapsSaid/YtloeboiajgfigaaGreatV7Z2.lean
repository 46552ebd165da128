/- The law ZlibWraps. -/
import Derived.Test.YtloeboiajgfigaaGreatV7Z1
import Derived.Test.YtloeboiajgfigaaGreatV7E
set_option linter.unusedVariables false
set_option linter.unusedSimpArgs false
set_option maxRecDepth 20000
set_option maxRecDepth 20000
namespace Go.Vit
open Go.Proofs
theorem zil (s:ByteArray) (hs:s.size<=2^50) (σ:Mem):z1 PG z7N [.str s] σ λv σ'=>v=.int .i64 (z9t s)/\σ.Same σ':=by
 refine zeP λ_=>?_
 unfold zbA
 refine loop3 (λ(i:Nat) (a b k:Int) σ'=>a=(z5G s i).1/\b=(z5G s i).2/\k=i/\i<=s.size/\σ.Same σ') (λi=>s.size-i) 0 ⟨by simp [z5G],by simp [z5G],rfl,by omega,(Mem.Same.refl σ).bump _⟩ ?_
 rintro i a b k σ1 ⟨rfl,rfl,rfl,hi,h1⟩
 have hb:=zF s i
 obtain ⟨ha,hb2⟩:=zfI s i
 unfold z7Y
 refine ifD (λhlt=>?_) (λhge=>?_)
 · repeat (first | refine To.go ?_ | with_reducible refine And.intro (by first | omega | exact ⟨rfl,rfl⟩) ?_ | ((with_reducible apply opt);(· (first | with_reducible assumption | rfl))) | ((with_reducible apply ldrw);(· (first | with_reducible assumption | (simp (disch:=omega) only [go_sem, *];try rfl)));(· (first | with_reducible assumption | rfl))) | ((with_reducible apply ldro);(· (first | with_reducible assumption | (simp (disch:=omega) only [go_sem, *];try rfl)));(· (first | with_reducible assumption | rfl))) | ((with_reducible apply st1);(· (first | with_reducible assumption | (simp (disch:=omega) only [go_sem, *];try rfl)));(· simp);(· rfl)) | with_reducible refine ifT rfl ?_ | with_reducible refine ifF (not_not_intro rfl) ?_ | with_reducible refine ifT (by omega) ?_ | with_reducible refine ifF (by omega) ?_)
   refine again ⟨i+1,⟨?_,?_,by omega,by omega,h1.bump _⟩,by omega⟩
   · simp only [z5G];omega
   · simp only [z5G];omega
 · obtain rfl:i=s.size:=by omega
   repeat (first | refine To.go ?_ | with_reducible refine And.intro (by first | omega | exact ⟨rfl,rfl⟩) ?_ | ((with_reducible apply opt);(· (first | with_reducible assumption | rfl))) | ((with_reducible apply ldrw);(· (first | with_reducible assumption | (simp (disch:=omega) only [go_sem, *];try rfl)));(· (first | with_reducible assumption | rfl))) | ((with_reducible apply ldro);(· (first | with_reducible assumption | (simp (disch:=omega) only [go_sem, *];try rfl)));(· (first | with_reducible assumption | rfl))) | ((with_reducible apply st1);(· (first | with_reducible assumption | (simp (disch:=omega) only [go_sem, *];try rfl)));(· simp);(· rfl)) | with_reducible refine ifT rfl ?_ | with_reducible refine ifF (not_not_intro rfl) ?_ | with_reducible refine ifT (by omega) ?_ | with_reducible refine ifF (by omega) ?_)
   exact ⟨by simp [z9t],h1.bump _⟩
end Go.Vit
