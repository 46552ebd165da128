/- The stream that is taken. -/
import Derived.Test.YtloeboiajgfigaaGreatV7D4
set_option linter.unusedVariables false
set_option linter.unusedSimpArgs false
set_option maxRecDepth 20000
namespace Go.Vit
open Go.Proofs
theorem zpO {σ:Mem} {b n i:Nat} {c:Cap} {l:List AV} {s:ByteArray} (hg:σ.get b=some (.rw l)) (hi:i<n) (hx:l[i]? = some (.str s)) {j:Int} (hj:j=(i:Nat)) {K:ByteArray->Prop} (hk:K s):zz 1 (.slice b 0 n c) j λp=>ldS σ p K:=by
 subst hj
 refine And.intro (show (0:Int)<=(i:Nat)/\((i:Nat):Int)<(n:Nat) by omega) ?_
 rw [Int.toNat_natCast,Nat.zero_add,Nat.mul_one]
 show ldW σ (.ptr b i) λa=>z5t a K
 exact ldrw hg hx hk
def best2 (a b:ByteArray):ByteArray:=if b.size<a.size then b else a
def tx (p:Nat×Nat):ByteArray:=text p.1 p.2
def best3 (s:ByteArray) (k:Nat):ByteArray:=best2 (best2 (tx (stored s)) (tx (zcn (toks s k)))) (tx (znf (toks s k)))
theorem zdG {s:ByteArray} (hs:s.size<=20000) {σ:Mem} :
 z1 PG z4A [.str s] σ λv σ'=>(∃ k,Done s k/\v=.str (best3 s k))/\σ.Same σ':=by
 refine zaH λlive=>?_
 unfold z7c
 refine z0 (zeM (σ:=σ.bump 4) (s:=s) (by omega)) ?_
 rintro _ σ1 ⟨rfl,s1⟩
 refine To.go ?_
 refine z0 (zgm (σ:=σ1.bump 7) hs) ?_
 rintro _ σ2 ⟨⟨k,hk,rfl⟩,s2⟩
 refine To.go ?_
 refine z0 (ze3 (σ:=σ2) hs) ?_
 rintro _ σ3 ⟨⟨k',hk',rfl⟩,s3⟩
 obtain rfl:=zdd hk hk'
 refine To.go ?_
 have n2:=s2.next
 have n3:=s3.next
 simp only [Mem.next_bump] at n2
 obtain ⟨A,hA⟩:∃ A,text (stored s).1 (stored s).2=A:=⟨_,rfl⟩
 obtain ⟨B,hB⟩:∃ B,text (zcn (toks s k)).1 (zcn (toks s k)).2=B:=⟨_,rfl⟩
 obtain ⟨C,hC⟩:∃ C,text (znf (toks s k)).1 (znf (toks s k)).2=C:=⟨_,rfl⟩
 have e:best3 s k=best2 (best2 A B) C:=by unfold best3 tx;rw [hA,hB,hC]
 rw [hA,hB,hC]
 refine To.go ?_
 obtain ⟨b,hb⟩:∃ b,σ1.next+4=b:=⟨_,rfl⟩
 obtain ⟨σ4,h4⟩:∃ σ4,σ4=σ3.put b (some (.rw [.str B,.str C])):=⟨_,rfl⟩
 rw [hb,<- h4]
 have s14:σ1.Same σ4:=by
  rw [h4];exact Mem.Same.put ((s2.ob).trans s3) (by omega) _
 have g4:σ4.get b=some (.rw [.str B,.str C]):=by rw [h4,gS']
 have n4:σ4.next=σ3.next:=by rw [h4];rfl
 clear h4
 refine To.go ?_
 refine loop2 (λ(i:Nat) (x:ByteArray) (y:Int) σ'=>y=i/\i<=2/\x=[A,best2 A B,best2 (best2 A B) C].getD i A/\σ4.Same σ') (λi=>2-i) 0 ⟨rfl,by omega,rfl,Mem.Same.refl _⟩ ?_
 rintro i x _ σ5 ⟨rfl,hi,hx,s5⟩
 unfold z5n
 rw [hb]
 have g5:=(s5.get b (by omega)).trans g4
 have n5:=s5.next
 match i,hi,hx with
 | 0,_,hx=>
   refine ifT (by decide) ?_
   refine zpO (σ:=σ5.bump 4) (i:=0) g5 (by decide) rfl rfl ?_
   refine join1 (λ(u:ByteArray) σ'=>u=best2 A B/\σ4.Same σ') ?_ ?_
   · replace hx:x=A:=hx
     subst hx
     refine ifD (λh=>?_) (λh=>?_)
     · exact ⟨by unfold best2;rw [if_pos (by omega)],s5.bump _⟩
     · exact ⟨by unfold best2;rw [if_neg (by omega)],s5.bump _⟩
   · rintro u σ6 ⟨rfl,s6⟩
     unfold z3d
     repeat (first | refine To.go ?_ | with_reducible refine And.intro (by omega) ?_)
     exact again ⟨1,⟨rfl,by omega,rfl,s6.bump _⟩,by omega⟩
 | 1,_,hx=>
   refine ifT (by decide) ?_
   refine zpO (σ:=σ5.bump 4) (i:=1) g5 (by decide) rfl rfl ?_
   refine join1 (λ(u:ByteArray) σ'=>u=best2 (best2 A B) C/\σ4.Same σ') ?_ ?_
   · replace hx:x=best2 A B:=hx
     rw [<- hx]
     refine ifD (λh=>?_) (λh=>?_)
     · exact ⟨by unfold best2;rw [if_pos (by omega)],s5.bump _⟩
     · exact ⟨by unfold best2;rw [if_neg (by omega)],s5.bump _⟩
   · rintro u σ6 ⟨rfl,s6⟩
     unfold z3d
     repeat (first | refine To.go ?_ | with_reducible refine And.intro (by omega) ?_)
     exact again ⟨2,⟨rfl,by omega,rfl,s6.bump _⟩,by omega⟩
 | 2,_,hx=>
   refine ifF (by decide) ?_
   replace hx:x=best2 (best2 A B) C:=hx
   subst hx
   exact ⟨⟨k,hk,by rw [e]⟩,((s1.ob.trans s14).trans s5).bump _⟩
 | n+3,h,_=>omega
end Go.Vit
