/- The library. -/
import Derived.Test.YtloeboiajgfigaaGreatV7P
set_option linter.unusedVariables false
set_option linter.unusedSimpArgs false
section
/- Runs of lengths, as the document tells them. -/
set_option maxRecDepth 20000
namespace Go.Vit
open Go.Proofs
end Go.Vit
end
section
/- Stored blocks. -/
set_option maxRecDepth 20000
namespace Go.Vit
open Go.Proofs
abbrev laP (p:Nat×Nat) (v n:Int):Nat×Nat:=lay p.1 p.2 v n
abbrev laS (p:Nat×Nat) (s:ByteArray):Nat×Nat:=zjT p.1 p.2 s
def hd (n:Nat):List UInt8:=[UInt8.ofNat (n % 256),UInt8.ofNat (n / 256 % 256),UInt8.ofNat (255-n % 256),UInt8.ofNat (255-n / 256)]
def hdB (n:Nat):ByteArray:=⟨(hd n).toArray⟩
theorem zqF {n:Nat} (hn:n<=65535):bl (hd n)=[.int .u8 ((n % 256:Nat):Int),.int .u8 ((n / 256:Nat):Int),.int .u8 ((255-n % 256:Nat):Int),.int .u8 ((255-n / 256:Nat):Int)]:=by
 unfold hd bl
 simp only [List.map_cons,List.map_nil,UInt8.toNat_ofNat']
 rw [Nat.mod_eq_of_lt (show n % 256<2^8 by omega),Nat.mod_eq_of_lt (show n / 256 % 256<2^8 by omega),Nat.mod_eq_of_lt (show n / 256<256 by omega),Nat.mod_eq_of_lt (show 255-n % 256<2^8 by omega),Nat.mod_eq_of_lt (show 255-n / 256<2^8 by omega)]
theorem znQ {n:Nat} (hn:n<2^62):zB .xor .i64 (-1) (n:Nat) = -1-(n:Int):=by
 show IntKind.i64.wrap (((BitVec.ofInt 64 (-1) ^^^ BitVec.ofInt 64 ((n:Nat):Int)).toNat:Nat):Int)=_
 rw [show BitVec.ofInt 64 (-1)=BitVec.allOnes 64 from rfl,BitVec.allOnes_xor,BitVec.toNat_not,show BitVec.ofInt 64 ((n:Nat):Int)=BitVec.ofNat 64 n from by simp,BitVec.toNat_ofNat,Nat.mod_eq_of_lt (by omega)]
 rw [IntKind.wrap_i64]
 have:(((2^64-1-n:Nat):Nat):Int)=18446744073709551615-(n:Int):=by omega
 rw [this];omega
def zcL (n:Nat) (d:ByteArray):Nat:=if n=d.size then 1 else 0
def stB (n:Nat) (d:ByteArray) (p:Nat×Nat):Nat×Nat:=laS (laS (laP p (zcL n d:Nat) 3) (hdB n)) (d.extract 0 n)
def z5d:Nat->ByteArray->Nat×Nat->Nat×Nat
 | 0,_,p=>p
 | f+1,d,p=>if d.size<=65535 then stB d.size d p else z5d f (d.extract 65535 d.size) (stB 65535 d p)
theorem z8J:∀ {f:Nat} {d:ByteArray} {p:Nat×Nat},d.size<f->z5d f d p=z5d (d.size+1) d p
 | 0,_,_,h=>by omega
 | f+1,d,p,h=>by
   unfold z5d
   split
   · rfl
   · have hz:=size_extract d 65535 d.size
     rw [z8J (f:=f) (by omega),z8J (f:=d.size) (by omega)]
theorem zhU {d:ByteArray} {p:Nat×Nat} (h:65535<d.size):z5d (d.size+1) d p=z5d d.size (d.extract 65535 d.size) (stB 65535 d p):=by rw [z5d,if_neg (by omega)]
theorem zhl {d:ByteArray} {p:Nat×Nat} (h:d.size<=65535):z5d (d.size+1) d p=stB d.size d p:=by rw [z5d,if_pos h]
def stored (s:ByteArray):Nat×Nat:=z5d (s.size+1) s (0,0)
theorem zeu (p:Nat×Nat) (s:ByteArray):(laS p s).2=8*((p.2+7) / 8)+8*s.size:=rfl
theorem z1Z (p:Nat×Nat) (v:Int) {n:Nat} (hn:n<=24):(laP p v n).2=p.2+n:=by
 unfold laP
 rw [lay,if_neg (by omega),Int.toNat_natCast]
theorem zoU (n:Nat) (d:ByteArray) (p:Nat×Nat) (hn:n<=d.size):(stB n d p).2<=p.2+42+8*n:=by
 unfold stB
 have h1:=z1Z p (zcL n d:Nat) (n:=3) (by decide)
 have hz:=size_extract d 0 n
 rw [zeu,zeu]
 rw [show ((3:Nat):Int)=3 from rfl] at h1
 rw [h1,show (hdB n).size=4 from rfl];omega
theorem zeM {s:ByteArray} (hs:s.size<=2^30) {σ:Mem} :
 z1 PG z51 [.str s] σ λv σ'=>v=.str (text (stored s).1 (stored s).2)/\σ.Same σ':=by
 refine zbY λlive=>?_
 unfold z7W
 refine z0 (zfH _) ?_
 rintro _ σ1 ⟨w,rfl,hw1,hw2,hwr,s1⟩
 replace s1:=s1.ob
 have hw0:σ.next<=w:=by simp only [Mem.next_bump] at hw1;omega
 obtain ⟨T,hT⟩:∃ T,stored s=T:=⟨_,rfl⟩
 rw [hT]
 refine loop2 (λ(j:Nat) (d:ByteArray) (m:Bool) σ'=>∃ p,Lone σ σ' w p/\d.size<=s.size/\p.2+50*(d.size+1)<=50*(s.size+1)+(if m then 0 else 100)/\(m=true->j=d.size+1/\z5d (d.size+1) d p=T)/\(m=false->j=0/\p=T)) (λj=>j) (s.size+1) ⟨(0,0),⟨[w],hwr.keep λ_ _=>rfl,λb hb=>by simp at hb;subst hb;exact ⟨hw0,by simp only [Mem.next_bump];omega⟩,s1.bump _⟩,Nat.le_refl _,by dsimp only;simp,λ_=>⟨rfl,hT⟩,λh=>Bool.noConfusion h⟩ ?_
 rintro j d' m σ2 h
 obtain ⟨d,rfl⟩:∃ d:ByteArray,d=d':=⟨_,rfl⟩
 obtain ⟨p,lone,hd1,hp,ht,hf⟩:=h
 unfold z6b
 cases m with
 | false=>
   obtain ⟨_,rfl⟩:=hf rfl
   obtain ⟨o,hwo,s2,st⟩:=lone.step
   refine z0 (z55 (σ:=σ2.bump 4) (hwo.keep λ_ _=>rfl) (by simp at hp;omega)) ?_
   rintro _ σ3 ⟨rfl,s3⟩
   exact ⟨rfl,s2.trans s3.ob⟩
 | true=>
   obtain ⟨rfl,hT'⟩:=ht rfl
   simp only [if_true] at hp
   obtain ⟨n,hn⟩:∃ n,min d.size 65535=n:=⟨_,rfl⟩
   refine To.go ?_
   rw [show imin ((d.size:Nat):Int) 65535=((n:Nat):Int) from by rw [<- hn];exact zfu _ 65535]
   show zd _ _ _
   refine join1 (λ(x:Int) σ'=>x=((zcL n d:Nat):Int)/\σ2.Same σ') ?_ ?_
   · refine ifD (λh=>?_) (λh=>?_)
     · refine ⟨?_,(Mem.Same.refl σ2).bump _⟩
       unfold zcL
       rw [if_neg (by omega)];rfl
     · refine ⟨?_,(Mem.Same.refl σ2).bump _⟩
       unfold zcL
       rw [if_pos (by omega)];rfl
   · rintro _ σ3 ⟨rfl,s3⟩
     unfold z5F
     have hlast:zcL n d<=1:=by unfold zcL;split<;>omega
     have hst2:=zoU n d p (by omega)
     have hz1:=size_extract d 0 n
     have h2:=z1Z p (zcL n d:Nat) (n:=3) (by decide)
     obtain ⟨o,hwo,s20,st⟩:=(lone.same (s3.bump 3)).step
     refine z0 (z0b hwo (by omega) (by omega) (by omega)) ?_
     rintro _ σ4 ⟨rfl,h4⟩
     have lone4:=st _ _ h4
     rw [znQ (by omega)]
     refine To.go ?_
     refine To.go ?_
     refine To.go ?_
     refine To.go ?_
     refine To.go ?_
     refine To.go ?_
     refine To.go ?_
     refine To.go ?_
     refine To.go ?_
     refine zg5 (l:=hd n) ?_ rfl ?_
     · rw [gS',zqF (by omega)]
       rw [show (-1-((n:Nat):Int)) / 256 % 256=((255-n / 256:Nat):Int) from by omega,show (-1-((n:Nat):Int)) % 256=((255-n % 256:Nat):Int) from by omega,show ((n:Nat):Int) / 256 % 256=((n / 256:Nat):Int) from by omega,show ((n:Nat):Int) % 256=((n % 256:Nat):Int) from by omega]
     have lone5:Lone σ ((σ4.bump 16).put (σ4.next+13) (some (.rw [.int .u8 (((n:Nat):Int) % 256),.int .u8 (((n:Nat):Int) / 256 % 256),.int .u8 ((-1-((n:Nat):Int)) % 256),.int .u8 ((-1-((n:Nat):Int)) / 256 % 256)]))) w (laP p (zcL n d:Nat) 3):=lone4.same (by repeat (with_reducible first | exact Mem.Same.refl _ | refine Mem.Same.bump ?_ _ | refine Mem.Same.put ?_ (by omega) _))
     obtain ⟨o5,hwo5,s05,st5⟩:=lone5.step
     refine z0 (z6V (s:=hdB n) hwo5 (by rw [show ((3:Nat):Int)=3 from rfl] at h2;rw [h2];omega) (by rw [show (hdB n).size=4 from rfl];omega)) ?_
     rintro _ σ6 ⟨rfl,h6⟩
     have lone6:=st5 _ (laS (laP p (zcL n d:Nat) 3) (hdB n)) h6
     refine And.intro (show (0:Int)<=0/\(0:Int)<=(n:Nat)/\((n:Nat):Int)<=(d.size:Nat) by omega) ?_
     rw [Int.toNat_natCast,Int.toNat_zero]
     obtain ⟨o7,hwo7,s07,st7⟩:=(lone6.same ((Mem.Same.refl σ6).bump 5)).step
     refine z0 (z6V (s:=d.extract 0 n) hwo7 (by rw [show ((3:Nat):Int)=3 from rfl] at h2;rw [zeu,h2,show (hdB n).size=4 from rfl];omega) (by omega)) ?_
     rintro _ σ8 ⟨rfl,h8⟩
     have lone8:Lone σ σ8 w (stB n d p):=st7 _ (laS (laS (laP p (zcL n d:Nat) 3) (hdB n)) (d.extract 0 n)) h8
     refine And.intro (show (0:Int)<=(n:Nat)/\((n:Nat):Int)<=(d.size:Nat)/\((d.size:Nat):Int)<=(d.size:Nat) by omega) ?_
     rw [Int.toNat_natCast,Int.toNat_natCast]
     have hz2:=size_extract d n d.size
     by_cases hnd:n<d.size
     · rw [decide_eq_true (show ((n:Nat):Int)<(d.size:Nat) by omega)]
       obtain rfl:n=65535:=by omega
       rw [Nat.min_self] at hz2
       have hb:(stB 65535 d p).2+50*((d.extract 65535 d.size).size+1)<=50*(s.size+1):=by omega
       refine again ⟨(d.extract 65535 d.size).size+1,⟨stB 65535 d p,lone8.same ((Mem.Same.refl σ8).bump _),?_,?_,λ_=>⟨rfl,?_⟩,λh=>Bool.noConfusion h⟩,?_⟩
       · show (d.extract 65535 d.size).size<=s.size
         omega
       · exact hb
       · rw [<- hT',zhU hnd]
         exact (z8J (by omega)).symm
       · omega
     · rw [decide_eq_false (show ¬ ((n:Nat):Int)<(d.size:Nat) by omega)]
       obtain rfl:n=d.size:=by omega
       refine again ⟨0,⟨stB d.size d p,lone8.same ((Mem.Same.refl σ8).bump _),by omega,?_,λh=>Bool.noConfusion h,λ_=>⟨rfl,?_⟩⟩,by omega⟩
       · simp only [if_false,Bool.false_eq_true];omega
       · rw [<- hT',zhl (by omega)]
end Go.Vit
end
section
/- Stored blocks, as the document tells them. -/
set_option maxRecDepth 20000
namespace Go.Vit
open Go.Proofs
def zhn (σ σ':Mem) (w:Nat) (p:Nat×Nat):Prop:=∃ o,WrR σ' w o p.1 p.2/\(∀ b∈o,σ.next<=b/\b<σ'.next)/\σ.Same σ'
theorem zhn.same {σ σ1 σ2:Mem} {w:Nat} {p:Nat×Nat} (h:zhn σ σ1 w p) (s:σ1.Same σ2):zhn σ σ2 w p:=by
 obtain ⟨o,h1,h2,h3⟩:=h
 exact ⟨o,h1.keep λb hb=>s.get b (h2 b hb).2,λb hb=>⟨(h2 b hb).1,Nat.lt_of_lt_of_le (h2 b hb).2 s.next⟩,h3.trans s⟩
theorem zhn.step {σ σ1:Mem} {w:Nat} {p:Nat×Nat} (h:zhn σ σ1 w p):∃ o,WrR σ1 w o p.1 p.2/\σ.Same σ1/\∀ σ2 p',(∃ o',WrR σ2 w o' p'.1 p'.2/\Grow o o' σ1 σ2)->zhn σ σ2 w p':=by
 obtain ⟨o,h1,h2,h3⟩:=h
 refine ⟨o,h1,h3,λσ2 p' ⟨o',h8,g⟩=>?_⟩
 obtain ⟨s,hn⟩:=g.same h3 λb hb=>(h2 b hb).1
 exact ⟨o',h8,λb hb=>⟨hn b hb,g.lt b hb⟩,s⟩
theorem zhn.new {σ σ1:Mem} {w:Nat} (h:σ1.get w=some (.rw [.nils,.int .i64 0])) (s:σ.Same σ1) (h1:σ.next<=w) (h2:w<σ1.next):zhn σ σ1 w (0,0):=
 ⟨[w],⟨by decide,.nils,rfl,by simp [z3],h,.nil 1 σ1⟩,λb hb=>by simp only [List.mem_singleton] at hb;subst hb;exact ⟨h1,h2⟩,s⟩
theorem zqM {n m:Nat} {K:Int->Prop} (hm:m≠0) (hn:n<2^62) (hk:K ((n / m:Nat):Int)):zgH .i64 (n:Nat) (m:Nat) K:=by
 refine ⟨by omega,?_⟩
 have h:n / m<=n:=Nat.div_le_self _ _
 rw [show Int.tdiv (n:Nat) (m:Nat)=((n / m:Nat):Int) from (Int.ofNat_tdiv n m).symm]
 generalize n / m=q at *
 rw [IntWalk.i64_in _ (by omega)]
 exact hk
theorem zqp {n m:Nat} {K:Int->Prop} (hm:m≠0) (hk:K ((n % m:Nat):Int)):zhX (n:Nat) (m:Nat) K:=by
 refine ⟨by omega,?_⟩
 rw [show Int.tmod (n:Nat) (m:Nat)=((n % m:Nat):Int) from (Int.ofNat_tmod n m).symm]
 exact hk
end Go.Vit
end
