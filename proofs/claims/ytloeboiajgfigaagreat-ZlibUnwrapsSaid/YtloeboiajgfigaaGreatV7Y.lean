/- The library. -/
import Derived.Test.YtloeboiajgfigaaGreatV7O
import Derived.Test.YtloeboiajgfigaaGreatVm3
set_option linter.unusedVariables false
set_option linter.unusedSimpArgs false
section
/- The document's rows: coins and pairs are merged. -/
set_option maxRecDepth 20000
namespace Go.Vit
open Go.Proofs
structure Th where
 n:Int
 c:Bool
 v:AV
 one:v.one=true
 t:Pm
def thC (x:Th):List AV:=[.int .i64 x.n,.bool x.c,x.v]
def th3 (X:List Th):List AV:=X.flatMap thC
end Go.Vit
end
section
/- Things of the document, and rows of them. -/
set_option maxRecDepth 20000
namespace Go.Vit
open Go.Proofs
def tms (m:Nat) (t:Pm):List Int:=arr (λi=>((t.cnt i:Nat):Int)) m
def zqq (lb m:Nat) (σ:Mem) (x:Th):Prop:=x.n=x.t.wt/\∃ b,x.v=.slice b 0 m (.ex m)/\b≠lb/\b<σ.next/\σ.get b=some (.rw (ic (tms m x.t)))
structure RowT (lb m:Nat) (σ:Mem) (u:AV) (X:List Th) (R:List Pm):Prop where
 own:z1Q 3 σ u (th3 X) X.length
 ts:X.map (λx=>x.t)=R
 rep:∀ x∈X,zqq lb m σ x
 lt:∀ b∈z3 u,b<σ.next/\b≠lb
theorem zqq.frame {lb m:Nat} {σ σ':Mem} {x:Th} (h:zqq lb m σ x) (hn:σ.next<=σ'.next) (hg:∀ b,b<σ.next->b≠lb->σ'.get b=σ.get b):zqq lb m σ' x:=by
 obtain ⟨h1,b,h2,h3,h4,h5⟩:=h
 exact ⟨h1,b,h2,h3,by omega,(hg b h4 h3).trans h5⟩
theorem RowT.frame {lb m:Nat} {σ σ':Mem} {u:AV} {X:List Th} {R:List Pm} (h:RowT lb m σ u X R) (hn:σ.next<=σ'.next) (hg:∀ b,b<σ.next->b≠lb->σ'.get b=σ.get b):RowT lb m σ' u X R:=
 ⟨h.own.keep λb hb=>hg b (h.lt b hb).1 (h.lt b hb).2,h.ts,λx hx=>(h.rep x hx).frame hn hg,λb hb=>⟨Nat.lt_of_lt_of_le (h.lt b hb).1 hn,(h.lt b hb).2⟩⟩
theorem RowT.same {lb m:Nat} {σ σ':Mem} {u:AV} {X:List Th} {R:List Pm} (h:RowT lb m σ u X R) (s:σ.Same σ'):RowT lb m σ' u X R:=h.frame s.next λb hb _=>s.get b hb
theorem RowT.len {lb m:Nat} {σ:Mem} {u:AV} {X:List Th} {R:List Pm} (h:RowT lb m σ u X R):X.length=R.length:=by rw [<- h.ts,List.length_map]
theorem RowT.nil (lb m:Nat) (σ:Mem):RowT lb m σ .nils [] []:=⟨.nil 3 σ,rfl,λx hx=>by simp at hx,λb hb=>by simp [z3] at hb⟩
theorem z1Q.front {k n m:Nat} {σ:Mem} {v:AV} {cs:List AV} (h:z1Q k σ v cs n) (hm:m<=n) {K:AV->Prop} (hk0:k≠0) (hk:∀ w,RdO k σ w (cs.take (m*k)) m->K w):zcJ k v none (some (m:Nat)) K:=by
 rcases h with ⟨rfl,rfl,rfl⟩ | ⟨b,rfl,hg,hl⟩
 · obtain rfl:m=0:=by omega
   refine And.intro (show (0:Int)<=0/\(0:Int)<=((0:Nat):Int)/\((0:Nat):Int)<=((0:Nat):Int) by decide) ?_
   exact hk _ (.inl ⟨rfl,rfl,by simp⟩)
 · refine And.intro ⟨by simp [Cap.fits],Int.le_refl _,show (0:Int)<=((m:Nat):Int) by omega,show ((m:Nat):Int)<=((n:Nat):Int) by omega⟩ ?_
   show K (.slice b (0+(0:Int).toNat*k) (((m:Nat):Int).toNat-(0:Int).toNat) _)
   rw [Int.toNat_natCast,Int.toNat_zero,Nat.zero_mul,Nat.sub_zero]
   have:m*k<=n*k:=Nat.mul_le_mul_right k hm
   exact hk _ (.inr ⟨b,0,_,rfl,by rw [List.length_take];omega,_,cs,hg,rfl,by rw [List.drop_zero],by omega⟩)
theorem z1Q.back {k n m:Nat} {σ:Mem} {v:AV} {cs:List AV} (h:z1Q k σ v cs n) (hm:m<=n) {K:AV->Prop} (hk0:k≠0) (hk:∀ w,RdO k σ w (cs.drop (m*k)) (n-m)->K w):zcJ k v (some (m:Nat)) none K:=by
 rcases h with ⟨rfl,rfl,rfl⟩ | ⟨b,rfl,hg,hl⟩
 · obtain rfl:m=0:=by omega
   refine And.intro (show (0:Int)<=((0:Nat):Int)/\((0:Nat):Int)<=((0:Nat):Int)/\((0:Nat):Int)<=((0:Nat):Int) by decide) ?_
   exact hk _ (.inl ⟨rfl,rfl,by simp⟩)
 · refine And.intro ⟨by simp [Cap.fits],show (0:Int)<=((m:Nat):Int) by omega,show ((m:Nat):Int)<=((n:Nat):Int) by omega,show ((n:Nat):Int)<=((n:Nat):Int) by omega⟩ ?_
   show K (.slice b (0+((m:Nat):Int).toNat*k) (((n:Nat):Int).toNat-((m:Nat):Int).toNat) _)
   rw [Int.toNat_natCast,Int.toNat_natCast,Nat.zero_add]
   have:m*k<=n*k:=Nat.mul_le_mul_right k hm
   have e:(n-m)*k=n*k-m*k:=Nat.sub_mul n m k
   refine hk _ (.inr ⟨b,m*k,_,rfl,by rw [List.length_drop];omega,_,cs,hg,rfl,?_,by omega⟩)
   rw [List.take_of_length_le (by rw [List.length_drop];omega)]
theorem zqP {σ σ':Mem} {b n i:Nat} {c:Cap} {L:List Int} (hg:σ.get b=some (.rw (ic L))) (hb:σ'.get b=σ.get b) (hi:i<n) {x:Int} (hx:L[i]? = some x) {j:Int} (hj:j=(i:Nat)) {K:Int->Prop} (hk:K x):zz 1 (.slice b 0 n c) j λp=>ldI σ' p K:=by
 subst hj
 refine And.intro (show (0:Int)<=(i:Nat)/\((i:Nat):Int)<(n:Nat) by omega) ?_
 rw [Int.toNat_natCast,Nat.zero_add,Nat.mul_one]
 refine ldq (σ:=σ') (K:=λa=>zq .i64 a K) (hb.trans hg) (v:=.int .i64 x) ?_ hk
 show (ic L)[i]? = _
 have h:=(List.getElem?_eq_some_iff.1 hx).1
 rw [zdW h]
 rw [List.getElem?_eq_getElem h] at hx
 injection hx with hx
 rw [hx]
end Go.Vit
end
section
/- The document's next row. -/
set_option maxRecDepth 20000
namespace Go.Vit
open Go.Proofs
end Go.Vit
end
section
/- The document's limited codes. -/
set_option maxRecDepth 20000
namespace Go.Vit
open Go.Proofs
end Go.Vit
end
section
/- The document's limited codes, put together. -/
set_option maxRecDepth 20000
namespace Go.Vit
open Go.Proofs
end Go.Vit
end
