/- The library. -/
import Derived.Test.YtloeboiajgfigaaV6P
set_option linter.unusedVariables false
set_option linter.unusedSimpArgs false
section
/- Runs of lengths, as the document tells them. -/
set_option linter.unusedSimpArgs false
set_option maxRecDepth 20000
namespace Go.Vit
open Go.Proofs
end Go.Vit
end
section
/- Stored blocks. -/
set_option linter.unusedSimpArgs false
set_option maxRecDepth 20000
namespace Go.Vit
open Go.Proofs
theorem wb_mod {W V:Nat}:∀ {k:Nat},wb W k=wb V k->W % 2^(8*k)=V % 2^(8*k)
 | 0,_=>by simp [Nat.mod_one]
 | k+1,h=>by
   rw [wb_succ,wb_succ] at h
   have h:=List.append_inj' h rfl
   have ih:=wb_mod h.1
   have e:=congrArg UInt8.toNat (List.cons.inj h.2).1
   rw [UInt8.toNat_ofNat',UInt8.toNat_ofNat',Nat.mod_mod,Nat.mod_mod] at e
   rw [show 8*(k+1)=8*k+8 from by omega,Nat.pow_add,Nat.mod_mul,Nat.mod_mul,ih,e]
theorem num_append (a b:ByteArray):num (a++b)=num a+num b*2^(8*a.size):=by
 have h1:=wb_num (a++b)
 rw [bytesL_append,ByteArray.size_append,<- wb_num a,<- wb_num b,<- wb_append (num b) b.size (num_lt a)] at h1
 have h:=wb_mod h1
 have l1:=num_lt (a++b)
 rw [ByteArray.size_append] at l1
 have l2:num a+num b*2^(8*a.size)<2^(8*(a.size+b.size)):=by
  have ha:=num_lt a
  have hb:=num_lt b
  rw [show 8*(a.size+b.size)=8*b.size+8*a.size from by omega,Nat.pow_add]
  generalize 2^(8*a.size)=p at *
  calc num a+num b*p<p+num b*p:=by omega
   _=(num b+1)*p:=by rw [Nat.add_mul,Nat.one_mul,Nat.add_comm]
   _<=_:=Nat.mul_le_mul_right _ hb
 rw [Nat.mod_eq_of_lt l1,Nat.mod_eq_of_lt l2] at h
 exact h
abbrev laP (p:Nat×Nat) (v n:Int):Nat×Nat:=lay p.1 p.2 v n
abbrev laS (p:Nat×Nat) (s:ByteArray):Nat×Nat:=layB p.1 p.2 s
theorem laS_laS (p:Nat×Nat) (a b:ByteArray):laS (laS p a) b=laS p (a++b):=by
 unfold laS layB
 dsimp only
 rw [num_append,ByteArray.size_append,show 8*((8*((p.2+7) / 8)+8*a.size+7) / 8)=8*((p.2+7) / 8)+8*a.size from by omega,Nat.pow_add,Nat.add_mul,Nat.mul_assoc (num b),Nat.mul_comm (2^(8*a.size))]
 exact Prod.ext (by dsimp only;omega) (by dsimp only;omega)
theorem lay_head (p:Nat×Nat) {v:Nat} (hv:v<=1):laP (laP p v 1) 0 2=laP p v 3:=by
 unfold laP
 rw [show (2:Int)=((2:Nat):Int) from rfl,lay_zero _ _ (by decide),lay,if_neg (by decide),lay,if_neg (by decide)]
 have e1:((v:Int) % 2^(1:Int).toNat).toNat=v:=by
  rw [show (2:Int)^(1:Int).toNat=2 from rfl];omega
 have e2:((v:Int) % 2^(3:Int).toNat).toNat=v:=by
  rw [show (2:Int)^(3:Int).toNat=8 from rfl];omega
 rw [e1,e2];rfl
def hd (n:Nat):List UInt8:=[UInt8.ofNat (n % 256),UInt8.ofNat (n / 256 % 256),UInt8.ofNat (255-n % 256),UInt8.ofNat (255-n / 256)]
def hdB (n:Nat):ByteArray:=⟨(hd n).toArray⟩
theorem bl_hd {n:Nat} (hn:n<=65535):bl (hd n)=[.int .u8 ((n % 256:Nat):Int),.int .u8 ((n / 256:Nat):Int),.int .u8 ((255-n % 256:Nat):Int),.int .u8 ((255-n / 256:Nat):Int)]:=by
 unfold hd bl
 simp only [List.map_cons,List.map_nil,UInt8.toNat_ofNat']
 rw [Nat.mod_eq_of_lt (show n % 256<2^8 by omega),Nat.mod_eq_of_lt (show n / 256 % 256<2^8 by omega),Nat.mod_eq_of_lt (show n / 256<256 by omega),Nat.mod_eq_of_lt (show 255-n % 256<2^8 by omega),Nat.mod_eq_of_lt (show 255-n / 256<2^8 by omega)]
theorem bits_not {n:Nat} (hn:n<2^62):bitsOp .xor .i64 (-1) (n:Nat) = -1-(n:Int):=by
 show IntKind.i64.wrap (((BitVec.ofInt 64 (-1) ^^^ BitVec.ofInt 64 ((n:Nat):Int)).toNat:Nat):Int)=_
 rw [show BitVec.ofInt 64 (-1)=BitVec.allOnes 64 from rfl,BitVec.allOnes_xor,BitVec.toNat_not,show BitVec.ofInt 64 ((n:Nat):Int)=BitVec.ofNat 64 n from by simp,BitVec.toNat_ofNat,Nat.mod_eq_of_lt (by omega)]
 rw [IntKind.wrap_i64]
 have:(((2^64-1-n:Nat):Nat):Int)=18446744073709551615-(n:Int):=by omega
 rw [this];omega
def lastB (n:Nat) (d:ByteArray):Nat:=if n=d.size then 1 else 0
def stB (n:Nat) (d:ByteArray) (p:Nat×Nat):Nat×Nat:=laS (laS (laP p (lastB n d:Nat) 3) (hdB n)) (d.extract 0 n)
def storedF:Nat->ByteArray->Nat×Nat->Nat×Nat
 | 0,_,p=>p
 | f+1,d,p=>if d.size<=65535 then stB d.size d p else storedF f (d.extract 65535 d.size) (stB 65535 d p)
theorem storedF_fuel:∀ {f:Nat} {d:ByteArray} {p:Nat×Nat},d.size<f->storedF f d p=storedF (d.size+1) d p
 | 0,_,_,h=>by omega
 | f+1,d,p,h=>by
   unfold storedF
   split
   · rfl
   · have hz:=size_extract d 65535 d.size
     rw [storedF_fuel (f:=f) (by omega),storedF_fuel (f:=d.size) (by omega)]
theorem storedF_succ {d:ByteArray} {p:Nat×Nat} (h:65535<d.size):storedF (d.size+1) d p=storedF d.size (d.extract 65535 d.size) (stB 65535 d p):=by rw [storedF,if_neg (by omega)]
theorem storedF_last {d:ByteArray} {p:Nat×Nat} (h:d.size<=65535):storedF (d.size+1) d p=stB d.size d p:=by rw [storedF,if_pos h]
def stored (s:ByteArray):Nat×Nat:=storedF (s.size+1) s (0,0)
theorem laS_two (p:Nat×Nat) (s:ByteArray):(laS p s).2=8*((p.2+7) / 8)+8*s.size:=rfl
theorem laP_two (p:Nat×Nat) (v:Int) {n:Nat} (hn:n<=24):(laP p v n).2=p.2+n:=by
 unfold laP
 rw [lay,if_neg (by omega),Int.toNat_natCast]
theorem stB_two (n:Nat) (d:ByteArray) (p:Nat×Nat) (hn:n<=d.size):(stB n d p).2<=p.2+42+8*n:=by
 unfold stB
 have h1:=laP_two p (lastB n d:Nat) (n:=3) (by decide)
 have hz:=size_extract d 0 n
 rw [laS_two,laS_two]
 rw [show ((3:Nat):Int)=3 from rfl] at h1
 rw [h1,show (hdB n).size=4 from rfl];omega
theorem deflate_Stored {s:ByteArray} (hs:s.size<=2^30) {σ:Mem} :
 ACalls PG n_deflate_Stored [.str s] σ fun v σ'=>v=.str (text (stored s).1 (stored s).2)/\σ.Same σ':=by
 refine ok_deflate_Stored fun live=>?_
 unfold F_deflate_Stored
 refine callW_of (bits_New _) ?_
 rintro _ σ1 ⟨w,rfl,hw1,hw2,hwr,s1⟩
 replace s1:=s1.ob
 have hw0:σ.next<=w:=by simp only [Mem.next_bump] at hw1;omega
 obtain ⟨T,hT⟩:∃ T,stored s=T:=⟨_,rfl⟩
 rw [hT]
 refine loop2 (fun (j:Nat) (d:ByteArray) (m:Bool) σ'=>∃ p,Lone σ σ' w p/\d.size<=s.size/\p.2+50*(d.size+1)<=50*(s.size+1)+(if m then 0 else 100)/\(m=true->j=d.size+1/\storedF (d.size+1) d p=T)/\(m=false->j=0/\p=T)) (fun j=>j) (s.size+1) ⟨(0,0),⟨[w],hwr.keep fun _ _=>rfl,fun b hb=>by simp at hb;subst hb;exact ⟨hw0,by simp only [Mem.next_bump];omega⟩,s1.bump _⟩,Nat.le_refl _,by dsimp only;simp,fun _=>⟨rfl,hT⟩,fun h=>Bool.noConfusion h⟩ ?_
 rintro j d' m σ2 h
 obtain ⟨d,rfl⟩:∃ d:ByteArray,d=d':=⟨_,rfl⟩
 obtain ⟨p,lone,hd1,hp,ht,hf⟩:=h
 unfold F_deflate_Stored_l1
 cases m with
 | false=>
   obtain ⟨_,rfl⟩:=hf rfl
   obtain ⟨o,hwo,s2,st⟩:=lone.step
   refine callW_of (bits_Writer_Text (σ:=σ2.bump 4) (hwo.keep fun _ _=>rfl) (by simp at hp;omega)) ?_
   rintro _ σ3 ⟨rfl,s3⟩
   exact ⟨rfl,s2.trans s3.ob⟩
 | true=>
   obtain ⟨rfl,hT'⟩:=ht rfl
   simp only [if_true] at hp
   obtain ⟨n,hn⟩:∃ n,min d.size 65535=n:=⟨_,rfl⟩
   refine To.go ?_
   rw [show imin ((d.size:Nat):Int) 65535=((n:Nat):Int) from by rw [<- hn];exact imin_nat _ 65535]
   show joinF _ _ _
   refine join1 (fun (x:Int) σ'=>x=((lastB n d:Nat):Int)/\σ2.Same σ') ?_ ?_
   · refine ifD (fun h=>?_) (fun h=>?_)
     · refine ⟨?_,(Mem.Same.refl σ2).bump _⟩
       unfold lastB
       rw [if_neg (by omega)];rfl
     · refine ⟨?_,(Mem.Same.refl σ2).bump _⟩
       unfold lastB
       rw [if_pos (by omega)];rfl
   · rintro _ σ3 ⟨rfl,s3⟩
     unfold F_deflate_Stored_j1
     have hlast:lastB n d<=1:=by unfold lastB;split<;>omega
     have hst2:=stB_two n d p (by omega)
     have hz1:=size_extract d 0 n
     have h2:=laP_two p (lastB n d:Nat) (n:=3) (by decide)
     obtain ⟨o,hwo,s20,st⟩:=(lone.same (s3.bump 3)).step
     refine callW_of (bits_Writer_Bits hwo (by omega) (by omega) (by omega)) ?_
     rintro _ σ4 ⟨rfl,h4⟩
     have lone4:=st _ _ h4
     rw [bits_not (by omega)]
     refine To.go ?_
     refine To.go ?_
     refine To.go ?_
     refine To.go ?_
     refine To.go ?_
     refine To.go ?_
     refine To.go ?_
     refine To.go ?_
     refine To.go ?_
     refine bstr_bl (l:=hd n) ?_ rfl ?_
     · rw [gS',bl_hd (by omega)]
       rw [show (-1-((n:Nat):Int)) / 256 % 256=((255-n / 256:Nat):Int) from by omega,show (-1-((n:Nat):Int)) % 256=((255-n % 256:Nat):Int) from by omega,show ((n:Nat):Int) / 256 % 256=((n / 256:Nat):Int) from by omega,show ((n:Nat):Int) % 256=((n % 256:Nat):Int) from by omega]
     have lone5:Lone σ ((σ4.bump 16).put (σ4.next+13) (some (.rw [.int .u8 (((n:Nat):Int) % 256),.int .u8 (((n:Nat):Int) / 256 % 256),.int .u8 ((-1-((n:Nat):Int)) % 256),.int .u8 ((-1-((n:Nat):Int)) / 256 % 256)]))) w (laP p (lastB n d:Nat) 3):=lone4.same (by repeat (with_reducible first | exact Mem.Same.refl _ | refine Mem.Same.bump ?_ _ | refine Mem.Same.put ?_ (by omega) _))
     obtain ⟨o5,hwo5,s05,st5⟩:=lone5.step
     refine callW_of (bits_Writer_Bytes (s:=hdB n) hwo5 (by rw [show ((3:Nat):Int)=3 from rfl] at h2;rw [h2];omega) (by rw [show (hdB n).size=4 from rfl];omega)) ?_
     rintro _ σ6 ⟨rfl,h6⟩
     have lone6:=st5 _ (laS (laP p (lastB n d:Nat) 3) (hdB n)) h6
     refine And.intro (show (0:Int)<=0/\(0:Int)<=(n:Nat)/\((n:Nat):Int)<=(d.size:Nat) by omega) ?_
     rw [Int.toNat_natCast,Int.toNat_zero]
     obtain ⟨o7,hwo7,s07,st7⟩:=(lone6.same ((Mem.Same.refl σ6).bump 5)).step
     refine callW_of (bits_Writer_Bytes (s:=d.extract 0 n) hwo7 (by rw [show ((3:Nat):Int)=3 from rfl] at h2;rw [laS_two,h2,show (hdB n).size=4 from rfl];omega) (by omega)) ?_
     rintro _ σ8 ⟨rfl,h8⟩
     have lone8:Lone σ σ8 w (stB n d p):=st7 _ (laS (laS (laP p (lastB n d:Nat) 3) (hdB n)) (d.extract 0 n)) h8
     refine And.intro (show (0:Int)<=(n:Nat)/\((n:Nat):Int)<=(d.size:Nat)/\((d.size:Nat):Int)<=(d.size:Nat) by omega) ?_
     rw [Int.toNat_natCast,Int.toNat_natCast]
     have hz2:=size_extract d n d.size
     by_cases hnd:n<d.size
     · rw [decide_eq_true (show ((n:Nat):Int)<(d.size:Nat) by omega)]
       obtain rfl:n=65535:=by omega
       rw [Nat.min_self] at hz2
       have hb:(stB 65535 d p).2+50*((d.extract 65535 d.size).size+1)<=50*(s.size+1):=by omega
       refine again ⟨(d.extract 65535 d.size).size+1,⟨stB 65535 d p,lone8.same ((Mem.Same.refl σ8).bump _),?_,?_,fun _=>⟨rfl,?_⟩,fun h=>Bool.noConfusion h⟩,?_⟩
       · show (d.extract 65535 d.size).size<=s.size
         omega
       · exact hb
       · rw [<- hT',storedF_succ hnd]
         exact (storedF_fuel (by omega)).symm
       · omega
     · rw [decide_eq_false (show ¬ ((n:Nat):Int)<(d.size:Nat) by omega)]
       obtain rfl:n=d.size:=by omega
       refine again ⟨0,⟨stB d.size d p,lone8.same ((Mem.Same.refl σ8).bump _),by omega,?_,fun h=>Bool.noConfusion h,fun _=>⟨rfl,?_⟩⟩,by omega⟩
       · simp only [if_false,Bool.false_eq_true];omega
       · rw [<- hT',storedF_last (by omega)]
end Go.Vit
end
section
/- Stored blocks, as the document tells them. -/
set_option linter.unusedSimpArgs false
set_option maxRecDepth 20000
namespace Go.Vit
open Go.Proofs
def LoneR (σ σ':Mem) (w:Nat) (p:Nat×Nat):Prop:=∃ o,WrR σ' w o p.1 p.2/\(∀ b∈o,σ.next<=b/\b<σ'.next)/\σ.Same σ'
theorem LoneR.same {σ σ1 σ2:Mem} {w:Nat} {p:Nat×Nat} (h:LoneR σ σ1 w p) (s:σ1.Same σ2):LoneR σ σ2 w p:=by
 obtain ⟨o,h1,h2,h3⟩:=h
 exact ⟨o,h1.keep fun b hb=>s.get b (h2 b hb).2,fun b hb=>⟨(h2 b hb).1,Nat.lt_of_lt_of_le (h2 b hb).2 s.next⟩,h3.trans s⟩
theorem LoneR.step {σ σ1:Mem} {w:Nat} {p:Nat×Nat} (h:LoneR σ σ1 w p):∃ o,WrR σ1 w o p.1 p.2/\σ.Same σ1/\∀ σ2 p',(∃ o',WrR σ2 w o' p'.1 p'.2/\Grow o o' σ1 σ2)->LoneR σ σ2 w p':=by
 obtain ⟨o,h1,h2,h3⟩:=h
 refine ⟨o,h1,h3,fun σ2 p' ⟨o',h8,g⟩=>?_⟩
 obtain ⟨s,hn⟩:=g.same h3 fun b hb=>(h2 b hb).1
 exact ⟨o',h8,fun b hb=>⟨hn b hb,g.lt b hb⟩,s⟩
theorem LoneR.new {σ σ1:Mem} {w:Nat} (h:σ1.get w=some (.rw [.nils,.int .i64 0])) (s:σ.Same σ1) (h1:σ.next<=w) (h2:w<σ1.next):LoneR σ σ1 w (0,0):=
 ⟨[w],⟨by decide,.nils,rfl,by simp [blkOf],h,.nil 1 σ1⟩,fun b hb=>by simp only [List.mem_singleton] at hb;subst hb;exact ⟨h1,h2⟩,s⟩
theorem remN {n m:Nat} {K:Int->Prop} (hm:m≠0) (hk:K ((n % m:Nat):Int)):remW (n:Nat) (m:Nat) K:=by
 refine ⟨by omega,?_⟩
 rw [show Int.tmod (n:Nat) (m:Nat)=((n % m:Nat):Int) from (Int.ofNat_tmod n m).symm]
 exact hk
end Go.Vit
end
