/- The library. -/
import Derived.Test.YtloeboiajgfigaaGreatV7P
set_option linter.unusedVariables false
set_option linter.unusedSimpArgs false
section
/- Runs of lengths, as the document tells them. -/
set_option maxRecDepth 20000
namespace Go.Vit
open Go.Proofs
theorem zmb {a:AV} {L:List Int} {σ:Mem} (ha:RdO 1 σ a (ic L) L.length) (hl:L.length<=2^40) :
 z1 PG z8m [a] σ λv σ'=>Own 2 σ σ' v (ic2 (runs L)) (runs L).length/\σ.Same σ':=by
 refine zhr λlive=>?_
 unfold zcW
 have hla:=ha.lt live
 have hf:∀ {σ':Mem},σ.Same σ'->∀ b∈z3 a,σ'.get b=σ.get b:=λs b hb=>s.get b (hla b hb)
 refine loop2 (λ(i:Nat) (u:AV) (y:Int) σ'=>y=i/\i<=L.length/\σ.Same σ'/\∃ R,Own 2 σ σ' u (ic2 R) R.length/\R.length<=i/\R++z4L L (L.length-i) i=runs L) (λi=>L.length-i) 0 ⟨rfl,by omega,(Mem.Same.refl σ).bump _,[],Own.nil 2 _ _,by simp,rfl⟩ ?_
 rintro i u _ σ1 ⟨rfl,hi,s1,R,own,hR,hr⟩
 unfold z9a
 refine (ha.keep (hf s1)).len ?_
 refine ifD (λhlt=>?_) (λhge=>?_)
 · have hil:i<L.length:=by omega
   obtain ⟨v,hv⟩:∃ v,L.getD i 0=v:=⟨_,rfl⟩
   refine join1 (λ(x:Int) σ'=>x=(rl L i:Nat)/\σ1.Same σ') ?_ ?_
   · refine loop1 (λ(n:Nat) (x:Int) σ'=>x=n/\1<=n/\i+n<=L.length/\(∀ j,j<n->L.getD (i+j) 0=v)/\σ1.Same σ') (λn=>L.length-(i+n)) 1 ⟨rfl,by omega,by omega,λj hj=>by rw [show i+j=i from by omega];exact hv,(Mem.Same.refl σ1).bump _⟩ ?_
     rintro n _ σ2 ⟨rfl,h1,h2,h3,s2⟩
     unfold z91
     refine z5 (by omega) ?_
     refine (ha.keep (hf (s1.trans s2))).len ?_
     refine ifD (λhn=>?_) (λhn=>?_)
     · refine z5 (by omega) ?_
       refine ha.rd (i:=i+n) (hf ((s1.trans s2).bump _)) (by omega) (by omega) ?_
       refine ha.rd (i:=i) (hf ((s1.trans s2).bump _)) hil rfl ?_
       rw [hv]
       refine ifD (λhe=>?_) (λhe=>?_)
       · refine z5 (by omega) ?_
         refine again ⟨n+1,⟨by omega,by omega,by omega,λj hj=>?_,s2.bump _⟩,by omega⟩
         by_cases e:j<n
         · exact h3 j e
         · rw [show j=n from by omega];exact he
       · exact ⟨by rw [zoA (by omega) (λj hj=>by rw [hv];exact h3 j hj) (λ_=>by rw [hv];exact he)],s2.bump _⟩
     · exact ⟨by rw [zoA (by omega) (λj hj=>by rw [hv];exact h3 j hj) (λ_=>by omega)],s2.bump _⟩
   · rintro _ σ2 ⟨rfl,s2⟩
     unfold z8Q
     obtain ⟨n,hn⟩:∃ n,rl L i=n:=⟨_,rfl⟩
     have hp:=zmN hil
     have hsp:=zbJ hil
     have hstep:=zg3 hil
     have hrs:rstep L i=z2e v (decide (0<i/\L.getD (i-1) 0=v)) n:=by unfold rstep;rw [hv,hn]
     rw [hn] at hp ⊢
     obtain ⟨p,hpe⟩:∃ p,decide (0<i/\L.getD (i-1) 0=v)=p:=⟨_,rfl⟩
     rw [hpe] at hrs
     obtain ⟨⟨c,k⟩,m⟩:(Int×Int)×Nat:=rstep L i
     obtain ⟨⟨⟨c,k⟩,m⟩,hst⟩:∃ t,rstep L i=t:=⟨_,rfl⟩
     rw [hst] at hrs hsp hstep
     have s12:=s1.trans s2
     have hb:v≠0->0<i->L.getD (i-1) 0=v->p=true:=λ_ h1 h2=>by rw [<- hpe];exact decide_eq_true ⟨h1,h2⟩
     have hb':¬ (0<i/\L.getD (i-1) 0=v)->p=false:=λh=>by rw [<- hpe];exact decide_eq_false h
     refine ha.rd (i:=i) (hf (s12.bump _)) hil rfl ?_
     rw [hv]
     obtain ⟨Rj,hRj⟩:∃ Rj:AV->Int->Mem->Prop,Rj=λu' (x:Int) σ'=>x=((m:Nat):Int)/\σ.Same σ'/\Own 2 σ σ' u' (ic2 (R++[(c,k)])) (R++[(c,k)]).length:=⟨_,rfl⟩
     have leafS:∀ (c' k' x':Int) (m' a b:Nat),z2e v p n=((c',k'),m')->x'=m'->b+3<=a->za (.agg [.int .i64 c',.int .i64 k']) 2 (zH (σ2.bump a) (σ2.next+b) (.rw [.int .i64 c',.int .i64 k']) λσ16=>apW 2 16 (σ2.next+(b+1)) σ16 u (.slice (σ2.next+b) 0 1 (.ex 1)) λv17 σ18=>Rj v17 x' σ18):=by
      intro c' k' x' m' a b e ex hab
      rw [e] at hrs
      injection hrs with e1 e2
      injection e1 with e1 e3
      subst e1;subst e2;subst e3;subst ex
      refine z5v rfl rfl ?_
      refine To.go ?_
      refine Own.push (m:=1) (c:=ic2 [(c,k)]) (own.same s2) s12 rfl (by omega) (by omega) (by omega) rfl (zhJ _) (zhJ _) (by omega) ?_ (by simp only [Mem.next_put,Mem.next_bump];omega)
      intro u' σ6 own6 s6 _ _ _
      rw [zg1] at own6
      rw [hRj]
      refine ⟨rfl,s6,?_⟩
      rw [List.length_append]
      exact own6
     have rest:∀ (next0:AV->Int->Mem->Prop),(∀ u' σ' ,Own 2 σ σ' u' (ic2 (R++[(c,k)])) (R++[(c,k)]).length->σ.Same σ'->next0 u' ((i+m:Nat):Int) σ')->∀ u' x σ',Rj u' x σ'->z5n next0 i u' x σ':=by
      intro next0 hnext u' x σ' h
      rw [hRj] at h
      obtain ⟨rfl,s6,own6⟩:=h
      unfold z5n
      refine z5 (by omega) ?_
      rw [show ((i:Nat):Int)+((m:Nat):Int)=((i+m:Nat):Int) from by omega]
      exact hnext u' _ (own6.same ((Mem.Same.refl σ').bump _)) (s6.bump _)
     have next:∀ u' σ' ,Own 2 σ σ' u' (ic2 (R++[(c,k)])) (R++[(c,k)]).length->σ.Same σ'->Again (∃ j:Nat,(((i+m:Nat):Int)=j/\j<=L.length/\σ.Same σ'/\∃ R,Own 2 σ σ' u' (ic2 R) R.length/\R.length<=j/\R++z4L L (L.length-j) j=runs L)/\L.length-j<L.length-i):=by
      intro u' σ' own' s'
      refine again ⟨i+m,⟨rfl,hsp.2,s',R++[(c,k)],own',?_,?_⟩,?_⟩
      · have:=hsp.1;simp only [List.length_append,List.length_cons,List.length_nil];omega
      · rw [hstep] at hr
        rw [List.append_assoc];exact hr
      · have:=hsp.1;omega
     have rest2:=rest (λ(x1:AV) (x2:Int) (σ':Mem)=>Again (∃ j:Nat,(x2=((j:Nat):Int)/\j<=L.length/\σ.Same σ'/\∃ R,Own 2 σ σ' x1 (ic2 R) R.length/\R.length<=j/\R++z4L L (L.length-j) j=runs L)/\L.length-j<L.length-i)) next
     have e138:imin ((n:Nat):Int) 138=((min n 138:Nat):Int):=z9h n 138
     have e6:imin ((n:Nat):Int) 6=((min n 6:Nat):Int):=z9h n 6
     by_cases hv0:v=0
     · refine ifT hv0 ?_
       refine join2 Rj ?_ rest2
       refine ifD (λh10=>?_) (λh10=>?_)
       · show iW (imin ((n:Nat):Int) 138-11) _
         rw [e138]
         refine z5 (by omega) ?_
         have:=leafS 18 ((min n 138-11:Nat):Int) (min n 138:Nat) (min n 138) 20 17 (by unfold z2e;rw [if_pos hv0,if_pos (by omega)]) rfl (by omega)
         rw [show ((min n 138-11:Nat):Int)=((min n 138:Nat):Int)-11 from by omega] at this
         exact this
       · refine ha.rd (i:=i) (hf (s12.bump _)) hil rfl ?_
         rw [hv]
         refine ifT hv0 ?_
         refine zN ?_
         refine ifD (λh2=>?_) (λh2=>?_)
         · refine z5 (by omega) ?_
           have:=leafS 17 ((n-3:Nat):Int) n n 27 24 (by unfold z2e;rw [if_pos hv0,if_neg (by omega),if_pos (by omega)]) rfl (by omega)
           rw [show ((n-3:Nat):Int)=((n:Nat):Int)-3 from by omega] at this
           exact this
         · refine ha.rd (i:=i) (hf (s12.bump _)) hil rfl ?_
           rw [hv]
           refine ifF (λh=>h hv0) ?_
           refine zN ?_
           refine ha.rd (i:=i) (hf (s12.bump _)) hil rfl ?_
           rw [hv]
           exact leafS v 0 1 1 56 53 (by unfold z2e;rw [if_pos hv0,if_neg (by omega),if_neg (by omega)]) rfl (by omega)
     · refine ifF hv0 ?_
       refine join2 Rj ?_ rest2
       refine ha.rd (i:=i) (hf (s12.bump _)) hil rfl ?_
       rw [hv]
       refine ifF hv0 ?_
       refine zN ?_
       refine ha.rd (i:=i) (hf (s12.bump _)) hil rfl ?_
       rw [hv]
       refine ifT hv0 ?_
       have one:p=false->za (.agg [.int .i64 v,.int .i64 0]) 2 (zH (σ2.bump 56) (σ2.next+53) (.rw [.int .i64 v,.int .i64 0]) λσ16=>apW 2 16 (σ2.next+54) σ16 u (.slice (σ2.next+53) 0 1 (.ex 1)) λv17 σ18=>Rj v17 1 σ18):=λhq=>
        leafS v 0 1 1 56 53 (by unfold z2e;rw [if_neg hv0,if_neg (λh=>by rw [hq] at h;exact Bool.noConfusion h.1)]) rfl (by omega)
       refine ifD (λh0=>?_) (λh0=>?_)
       · refine z5 (by omega) ?_
         refine ha.rd (i:=i-1) (hf (s12.bump _)) (by omega) (by omega) ?_
         refine ha.rd (i:=i) (hf (s12.bump _)) hil rfl ?_
         rw [hv]
         refine ifD (λhe=>?_) (λhe=>?_)
         · have hq:=hb hv0 (by omega) he
           refine zN ?_
           refine ifD (λh2=>?_) (λh2=>?_)
           · show iW (imin ((n:Nat):Int) 6-3) _
             rw [e6]
             refine z5 (by omega) ?_
             have:=leafS 16 ((min n 6-3:Nat):Int) (min n 6:Nat) (min n 6) 56 53 (by unfold z2e;rw [if_neg hv0,if_pos ⟨hq,by omega⟩]) rfl (by omega)
             rw [show ((min n 6-3:Nat):Int)=((min n 6:Nat):Int)-3 from by omega] at this
             exact this
           · refine ha.rd (i:=i) (hf (s12.bump _)) hil rfl ?_
             rw [hv]
             exact leafS v 0 1 1 56 53 (by unfold z2e;rw [if_neg hv0,if_neg (λh=>by omega)]) rfl (by omega)
         · refine zN ?_
           refine ha.rd (i:=i) (hf (s12.bump _)) hil rfl ?_
           rw [hv]
           exact one (hb' λh=>he h.2)
       · refine zN ?_
         refine ha.rd (i:=i) (hf (s12.bump _)) hil rfl ?_
         rw [hv]
         exact one (hb' λh=>h0 (by omega))
 · obtain rfl:i=L.length:=by omega
   rw [zi8 L (Nat.le_refl _),List.append_nil] at hr
   rw [<- hr]
   exact ⟨own.same ((Mem.Same.refl σ1).bump _),s1.bump _⟩
end Go.Vit
end
section
/- Stored blocks. -/
set_option maxRecDepth 20000
namespace Go.Vit
open Go.Proofs
theorem zpB {W V:Nat}:∀ {k:Nat},wb W k=wb V k->W % 2^(8*k)=V % 2^(8*k)
 | 0,_=>by simp [Nat.mod_one]
 | k+1,h=>by
   rw [z7z,z7z] at h
   have h:=List.append_inj' h rfl
   have ih:=zpB h.1
   have e:=congrArg UInt8.toNat (List.cons.inj h.2).1
   rw [UInt8.toNat_ofNat',UInt8.toNat_ofNat',Nat.mod_mod,Nat.mod_mod] at e
   rw [show 8*(k+1)=8*k+8 from by omega,Nat.pow_add,Nat.mod_mul,Nat.mod_mul,ih,e]
theorem zmi (a b:ByteArray):num (a++b)=num a+num b*2^(8*a.size):=by
 have h1:=zjg (a++b)
 rw [z7l,ByteArray.size_append,<- zjg a,<- zjg b,<- zeK (num b) b.size (zjh a)] at h1
 have h:=zpB h1
 have l1:=zjh (a++b)
 rw [ByteArray.size_append] at l1
 have l2:num a+num b*2^(8*a.size)<2^(8*(a.size+b.size)):=by
  have ha:=zjh a
  have hb:=zjh b
  rw [show 8*(a.size+b.size)=8*b.size+8*a.size from by omega,Nat.pow_add]
  generalize 2^(8*a.size)=p at *
  calc num a+num b*p<p+num b*p:=by omega
   _=(num b+1)*p:=by rw [Nat.add_mul,Nat.one_mul,Nat.add_comm]
   _<=_:=Nat.mul_le_mul_right _ hb
 rw [Nat.mod_eq_of_lt l1,Nat.mod_eq_of_lt l2] at h
 exact h
abbrev laP (p:Nat×Nat) (v n:Int):Nat×Nat:=lay p.1 p.2 v n
abbrev laS (p:Nat×Nat) (s:ByteArray):Nat×Nat:=zi6 p.1 p.2 s
theorem zpU (p:Nat×Nat) (a b:ByteArray):laS (laS p a) b=laS p (a++b):=by
 unfold laS zi6
 dsimp only
 rw [zmi,ByteArray.size_append,show 8*((8*((p.2+7) / 8)+8*a.size+7) / 8)=8*((p.2+7) / 8)+8*a.size from by omega,Nat.pow_add,Nat.add_mul,Nat.mul_assoc (num b),Nat.mul_comm (2^(8*a.size))]
 exact Prod.ext (by dsimp only;omega) (by dsimp only;omega)
theorem zoI (p:Nat×Nat) {v:Nat} (hv:v<=1):laP (laP p v 1) 0 2=laP p v 3:=by
 unfold laP
 rw [show (2:Int)=((2:Nat):Int) from rfl,zhC _ _ (by decide),lay,if_neg (by decide),lay,if_neg (by decide)]
 have e1:((v:Int) % 2^(1:Int).toNat).toNat=v:=by
  rw [show (2:Int)^(1:Int).toNat=2 from rfl];omega
 have e2:((v:Int) % 2^(3:Int).toNat).toNat=v:=by
  rw [show (2:Int)^(3:Int).toNat=8 from rfl];omega
 rw [e1,e2];rfl
def hd (n:Nat):List UInt8:=[UInt8.ofNat (n % 256),UInt8.ofNat (n / 256 % 256),UInt8.ofNat (255-n % 256),UInt8.ofNat (255-n / 256)]
def hdB (n:Nat):ByteArray:=⟨(hd n).toArray⟩
theorem zqZ {n:Nat} (hn:n<=65535):bl (hd n)=[.int .u8 ((n % 256:Nat):Int),.int .u8 ((n / 256:Nat):Int),.int .u8 ((255-n % 256:Nat):Int),.int .u8 ((255-n / 256:Nat):Int)]:=by
 unfold hd bl
 simp only [List.map_cons,List.map_nil,UInt8.toNat_ofNat']
 rw [Nat.mod_eq_of_lt (show n % 256<2^8 by omega),Nat.mod_eq_of_lt (show n / 256 % 256<2^8 by omega),Nat.mod_eq_of_lt (show n / 256<256 by omega),Nat.mod_eq_of_lt (show 255-n % 256<2^8 by omega),Nat.mod_eq_of_lt (show 255-n / 256<2^8 by omega)]
theorem zop {n:Nat} (hn:n<2^62):zF .xor .i64 (-1) (n:Nat) = -1-(n:Int):=by
 show IntKind.i64.wrap (((BitVec.ofInt 64 (-1) ^^^ BitVec.ofInt 64 ((n:Nat):Int)).toNat:Nat):Int)=_
 rw [show BitVec.ofInt 64 (-1)=BitVec.allOnes 64 from rfl,BitVec.allOnes_xor,BitVec.toNat_not,show BitVec.ofInt 64 ((n:Nat):Int)=BitVec.ofNat 64 n from by simp,BitVec.toNat_ofNat,Nat.mod_eq_of_lt (by omega)]
 rw [IntKind.wrap_i64]
 have:(((2^64-1-n:Nat):Nat):Int)=18446744073709551615-(n:Int):=by omega
 rw [this];omega
def z57 (n:Nat) (d:ByteArray):Nat:=if n=d.size then 1 else 0
def stB (n:Nat) (d:ByteArray) (p:Nat×Nat):Nat×Nat:=laS (laS (laP p (z57 n d:Nat) 3) (hdB n)) (d.extract 0 n)
def z44:Nat->ByteArray->Nat×Nat->Nat×Nat
 | 0,_,p=>p
 | f+1,d,p=>if d.size<=65535 then stB d.size d p else z44 f (d.extract 65535 d.size) (stB 65535 d p)
theorem z6b:∀ {f:Nat} {d:ByteArray} {p:Nat×Nat},d.size<f->z44 f d p=z44 (d.size+1) d p
 | 0,_,_,h=>by omega
 | f+1,d,p,h=>by
   unfold z44
   split
   · rfl
   · have hz:=size_extract d 65535 d.size
     rw [z6b (f:=f) (by omega),z6b (f:=d.size) (by omega)]
theorem zcB {d:ByteArray} {p:Nat×Nat} (h:65535<d.size):z44 (d.size+1) d p=z44 d.size (d.extract 65535 d.size) (stB 65535 d p):=by rw [z44,if_neg (by omega)]
theorem zd0 {d:ByteArray} {p:Nat×Nat} (h:d.size<=65535):z44 (d.size+1) d p=stB d.size d p:=by rw [z44,if_pos h]
def stored (s:ByteArray):Nat×Nat:=z44 (s.size+1) s (0,0)
theorem zep (p:Nat×Nat) (s:ByteArray):(laS p s).2=8*((p.2+7) / 8)+8*s.size:=rfl
theorem z0E (p:Nat×Nat) (v:Int) {n:Nat} (hn:n<=24):(laP p v n).2=p.2+n:=by
 unfold laP
 rw [lay,if_neg (by omega),Int.toNat_natCast]
theorem zn0 (n:Nat) (d:ByteArray) (p:Nat×Nat) (hn:n<=d.size):(stB n d p).2<=p.2+42+8*n:=by
 unfold stB
 have h1:=z0E p (z57 n d:Nat) (n:=3) (by decide)
 have hz:=size_extract d 0 n
 rw [zep,zep]
 rw [show ((3:Nat):Int)=3 from rfl] at h1
 rw [h1,show (hdB n).size=4 from rfl];omega
theorem zfT {s:ByteArray} (hs:s.size<=2^30) {σ:Mem} :
 z1 PG z4D [.str s] σ λv σ'=>v=.str (text (stored s).1 (stored s).2)/\σ.Same σ':=by
 refine zc4 λlive=>?_
 unfold z7W
 refine z0 (zgP _) ?_
 rintro _ σ1 ⟨w,rfl,hw1,hw2,hwr,s1⟩
 replace s1:=s1.ob
 have hw0:σ.next<=w:=by simp only [Mem.next_bump] at hw1;omega
 obtain ⟨T,hT⟩:∃ T,stored s=T:=⟨_,rfl⟩
 rw [hT]
 refine loop2 (λ(j:Nat) (d:ByteArray) (m:Bool) σ'=>∃ p,Lone σ σ' w p/\d.size<=s.size/\p.2+50*(d.size+1)<=50*(s.size+1)+(if m then 0 else 100)/\(m=true->j=d.size+1/\z44 (d.size+1) d p=T)/\(m=false->j=0/\p=T)) (λj=>j) (s.size+1) ⟨(0,0),⟨[w],hwr.keep λ_ _=>rfl,λb hb=>by simp at hb;subst hb;exact ⟨hw0,by simp only [Mem.next_bump];omega⟩,s1.bump _⟩,Nat.le_refl _,by dsimp only;simp,λ_=>⟨rfl,hT⟩,λh=>Bool.noConfusion h⟩ ?_
 rintro j d' m σ2 h
 obtain ⟨d,rfl⟩:∃ d:ByteArray,d=d':=⟨_,rfl⟩
 obtain ⟨p,lone,hd1,hp,ht,hf⟩:=h
 unfold z5J
 cases m with
 | false=>
   obtain ⟨_,rfl⟩:=hf rfl
   obtain ⟨o,hwo,s2,st⟩:=lone.step
   refine z0 (z4O (σ:=σ2.bump 4) (hwo.keep λ_ _=>rfl) (by simp at hp;omega)) ?_
   rintro _ σ3 ⟨rfl,s3⟩
   exact ⟨rfl,s2.trans s3.ob⟩
 | true=>
   obtain ⟨rfl,hT'⟩:=ht rfl
   simp only [if_true] at hp
   obtain ⟨n,hn⟩:∃ n,min d.size 65535=n:=⟨_,rfl⟩
   refine To.go ?_
   rw [show imin ((d.size:Nat):Int) 65535=((n:Nat):Int) from by rw [<- hn];exact z9h _ 65535]
   show z9 _ _ _
   refine join1 (λ(x:Int) σ'=>x=((z57 n d:Nat):Int)/\σ2.Same σ') ?_ ?_
   · refine ifD (λh=>?_) (λh=>?_)
     · refine ⟨?_,(Mem.Same.refl σ2).bump _⟩
       unfold z57
       rw [if_neg (by omega)];rfl
     · refine ⟨?_,(Mem.Same.refl σ2).bump _⟩
       unfold z57
       rw [if_pos (by omega)];rfl
   · rintro _ σ3 ⟨rfl,s3⟩
     unfold z5M
     have hlast:z57 n d<=1:=by unfold z57;split<;>omega
     have hst2:=zn0 n d p (by omega)
     have hz1:=size_extract d 0 n
     have h2:=z0E p (z57 n d:Nat) (n:=3) (by decide)
     obtain ⟨o,hwo,s20,st⟩:=(lone.same (s3.bump 3)).step
     refine z0 (z09 hwo (by omega) (by omega) (by omega)) ?_
     rintro _ σ4 ⟨rfl,h4⟩
     have lone4:=st _ _ h4
     rw [zop (by omega)]
     refine To.go ?_
     refine To.go ?_
     refine To.go ?_
     refine To.go ?_
     refine To.go ?_
     refine To.go ?_
     refine To.go ?_
     refine To.go ?_
     refine To.go ?_
     refine zc0 (l:=hd n) ?_ rfl ?_
     · rw [gS',zqZ (by omega)]
       rw [show (-1-((n:Nat):Int)) / 256 % 256=((255-n / 256:Nat):Int) from by omega,show (-1-((n:Nat):Int)) % 256=((255-n % 256:Nat):Int) from by omega,show ((n:Nat):Int) / 256 % 256=((n / 256:Nat):Int) from by omega,show ((n:Nat):Int) % 256=((n % 256:Nat):Int) from by omega]
     have lone5:Lone σ ((σ4.bump 16).put (σ4.next+13) (some (.rw [.int .u8 (((n:Nat):Int) % 256),.int .u8 (((n:Nat):Int) / 256 % 256),.int .u8 ((-1-((n:Nat):Int)) % 256),.int .u8 ((-1-((n:Nat):Int)) / 256 % 256)]))) w (laP p (z57 n d:Nat) 3):=lone4.same (by repeat (with_reducible first | exact Mem.Same.refl _ | refine Mem.Same.bump ?_ _ | refine Mem.Same.put ?_ (by omega) _))
     obtain ⟨o5,hwo5,s05,st5⟩:=lone5.step
     refine z0 (z6E (s:=hdB n) hwo5 (by rw [show ((3:Nat):Int)=3 from rfl] at h2;rw [h2];omega) (by rw [show (hdB n).size=4 from rfl];omega)) ?_
     rintro _ σ6 ⟨rfl,h6⟩
     have lone6:=st5 _ (laS (laP p (z57 n d:Nat) 3) (hdB n)) h6
     refine And.intro (show (0:Int)<=0/\(0:Int)<=(n:Nat)/\((n:Nat):Int)<=(d.size:Nat) by omega) ?_
     rw [Int.toNat_natCast,Int.toNat_zero]
     obtain ⟨o7,hwo7,s07,st7⟩:=(lone6.same ((Mem.Same.refl σ6).bump 5)).step
     refine z0 (z6E (s:=d.extract 0 n) hwo7 (by rw [show ((3:Nat):Int)=3 from rfl] at h2;rw [zep,h2,show (hdB n).size=4 from rfl];omega) (by omega)) ?_
     rintro _ σ8 ⟨rfl,h8⟩
     have lone8:Lone σ σ8 w (stB n d p):=st7 _ (laS (laS (laP p (z57 n d:Nat) 3) (hdB n)) (d.extract 0 n)) h8
     refine And.intro (show (0:Int)<=(n:Nat)/\((n:Nat):Int)<=(d.size:Nat)/\((d.size:Nat):Int)<=(d.size:Nat) by omega) ?_
     rw [Int.toNat_natCast,Int.toNat_natCast]
     have hz2:=size_extract d n d.size
     by_cases hnd:n<d.size
     · rw [decide_eq_true (show ((n:Nat):Int)<(d.size:Nat) by omega)]
       obtain rfl:n=65535:=by omega
       rw [Nat.min_self] at hz2
       have hb:(stB 65535 d p).2+50*((d.extract 65535 d.size).size+1)<=50*(s.size+1):=by omega
       refine again ⟨(d.extract 65535 d.size).size+1,⟨stB 65535 d p,lone8.same ((Mem.Same.refl σ8).bump _),?_,?_,λ_=>⟨rfl,?_⟩,λh=>Bool.noConfusion h⟩,?_⟩
       · show (d.extract 65535 d.size).size<=s.size
         omega
       · exact hb
       · rw [<- hT',zcB hnd]
         exact (z6b (by omega)).symm
       · omega
     · rw [decide_eq_false (show ¬ ((n:Nat):Int)<(d.size:Nat) by omega)]
       obtain rfl:n=d.size:=by omega
       refine again ⟨0,⟨stB d.size d p,lone8.same ((Mem.Same.refl σ8).bump _),by omega,?_,λh=>Bool.noConfusion h,λ_=>⟨rfl,?_⟩⟩,by omega⟩
       · simp only [if_false,Bool.false_eq_true];omega
       · rw [<- hT',zd0 (by omega)]
end Go.Vit
end
section
/- Stored blocks, as the document tells them. -/
set_option maxRecDepth 20000
namespace Go.Vit
open Go.Proofs
def z7o (σ σ':Mem) (w:Nat) (p:Nat×Nat):Prop:=∃ o,WrR σ' w o p.1 p.2/\(∀ b∈o,σ.next<=b/\b<σ'.next)/\σ.Same σ'
theorem z7o.same {σ σ1 σ2:Mem} {w:Nat} {p:Nat×Nat} (h:z7o σ σ1 w p) (s:σ1.Same σ2):z7o σ σ2 w p:=by
 obtain ⟨o,h1,h2,h3⟩:=h
 exact ⟨o,h1.keep λb hb=>s.get b (h2 b hb).2,λb hb=>⟨(h2 b hb).1,Nat.lt_of_lt_of_le (h2 b hb).2 s.next⟩,h3.trans s⟩
theorem z7o.step {σ σ1:Mem} {w:Nat} {p:Nat×Nat} (h:z7o σ σ1 w p):∃ o,WrR σ1 w o p.1 p.2/\σ.Same σ1/\∀ σ2 p',(∃ o',WrR σ2 w o' p'.1 p'.2/\Grow o o' σ1 σ2)->z7o σ σ2 w p':=by
 obtain ⟨o,h1,h2,h3⟩:=h
 refine ⟨o,h1,h3,λσ2 p' ⟨o',h8,g⟩=>?_⟩
 obtain ⟨s,hn⟩:=g.same h3 λb hb=>(h2 b hb).1
 exact ⟨o',h8,λb hb=>⟨hn b hb,g.lt b hb⟩,s⟩
theorem z7o.new {σ σ1:Mem} {w:Nat} (h:σ1.get w=some (.rw [.nils,.int .i64 0])) (s:σ.Same σ1) (h1:σ.next<=w) (h2:w<σ1.next):z7o σ σ1 w (0,0):=
 ⟨[w],⟨by decide,.nils,rfl,by simp [z3],h,.nil 1 σ1⟩,λb hb=>by simp only [List.mem_singleton] at hb;subst hb;exact ⟨h1,h2⟩,s⟩
theorem zri {n m:Nat} {K:Int->Prop} (hm:m≠0) (hn:n<2^62) (hk:K ((n / m:Nat):Int)):zjO .i64 (n:Nat) (m:Nat) K:=by
 refine ⟨by omega,?_⟩
 have h:n / m<=n:=Nat.div_le_self _ _
 rw [show Int.tdiv (n:Nat) (m:Nat)=((n / m:Nat):Int) from (Int.ofNat_tdiv n m).symm]
 generalize n / m=q at *
 rw [IntWalk.i64_in _ (by omega)]
 exact hk
theorem zrK {n m:Nat} {K:Int->Prop} (hm:m≠0) (hk:K ((n % m:Nat):Int)):zl3 (n:Nat) (m:Nat) K:=by
 refine ⟨by omega,?_⟩
 rw [show Int.tmod (n:Nat) (m:Nat)=((n % m:Nat):Int) from (Int.ofNat_tmod n m).symm]
 exact hk
theorem ziJ {s:ByteArray} (hs:s.size<=2^30) {σ:Mem} :
 z1 PG z6z [.str s] σ λv σ'=>v=.str (text (stored s).1 (stored s).2)/\σ.Same σ':=by
 refine zf3 λlive=>?_
 unfold z9P
 refine z9f rfl ?_
 refine To.go ?_
 obtain ⟨T,hT⟩:∃ T,stored s=T:=⟨_,rfl⟩
 obtain ⟨w,hw⟩:∃ w,σ.next+2=w:=⟨_,rfl⟩
 rw [hT]
 refine loop1 (λ(j:Nat) (d:ByteArray) σ'=>∃ p,z7o σ σ' w p/\d.size<=s.size/\p.2+50*(d.size+1)<=50*(s.size+1)/\j=d.size+1/\z44 (d.size+1) d p=T) (λj=>j) (s.size+1) ⟨(0,0),.new (by rw [hw,gS']) (by repeat (with_reducible first | exact Mem.Same.refl _ | refine Mem.Same.bump ?_ _ | refine Mem.Same.put ?_ (by omega) _)) (by omega) (by simp only [Mem.next_put,Mem.next_bump];omega),Nat.le_refl _,by dsimp only;omega,rfl,hT⟩ ?_
 rintro j d' σ2 h
 obtain ⟨d,rfl⟩:∃ d:ByteArray,d=d':=⟨_,rfl⟩
 obtain ⟨p,lone,hd1,hp,rfl,hT'⟩:=h
 unfold z70
 obtain ⟨n,hn⟩:∃ n,min d.size 65535=n:=⟨_,rfl⟩
 rw [show imin ((d.size:Nat):Int) 65535=((n:Nat):Int) from by rw [<- hn];exact z9h _ 65535]
 show z9 _ _ _
 refine join1 (λ(x:Int) σ'=>x=((z57 n d:Nat):Int)/\σ2.Same σ') ?_ ?_
 · refine ifD (λh=>?_) (λh=>?_)
   · refine ⟨?_,(Mem.Same.refl σ2).bump _⟩
     unfold z57
     rw [if_pos (by omega)];rfl
   · refine ⟨?_,(Mem.Same.refl σ2).bump _⟩
     unfold z57
     rw [if_neg (by omega)];rfl
 · rintro _ σ3 ⟨rfl,s3⟩
   unfold z6I
   rw [hw]
   have hlast:z57 n d<=1:=by unfold z57;split<;>omega
   have hst2:=zn0 n d p (by omega)
   have hz1:=size_extract d 0 n
   have h1:=z0E p (z57 n d:Nat) (n:=1) (by decide)
   have h2:=z0E p (z57 n d:Nat) (n:=3) (by decide)
   rw [show ((3:Nat):Int)=3 from rfl] at h2
   rw [show ((1:Nat):Int)=1 from rfl] at h1
   obtain ⟨o,hwo,s20,st⟩:=(lone.same (s3.bump 3)).step
   refine z0 (zJ hwo (by omega) (by omega) (by omega)) ?_
   rintro _ σ4 ⟨rfl,h4⟩
   have lone4:=st _ (laP p (z57 n d:Nat) 1) h4
   obtain ⟨o',hwo',s20',st'⟩:=(lone4.same ((Mem.Same.refl σ4).bump 2)).step
   refine z0 (zJ hwo' (by rw [h1];omega) (by omega) (by omega)) ?_
   rintro _ σ4 ⟨rfl,h4⟩
   have lone4:=st' _ (laP (laP p (z57 n d:Nat) 1) 0 2) h4
   rw [zoI p hlast] at lone4
   refine To.go ?_
   refine zri (m:=256) (by decide) (by omega) ?_
   refine To.go ?_
   refine zrK (m:=256) (by decide) ?_
   refine z5 (by omega) ?_
   refine To.go ?_
   refine zri (m:=256) (by decide) (by omega) ?_
   refine z5 (by omega) ?_
   refine To.go ?_
   refine To.go ?_
   refine zc0 (l:=hd n) ?_ rfl ?_
   · rw [gS',zqZ (by omega)]
     rw [show ((n / 256:Nat):Int) % 256=((n / 256:Nat):Int) from by omega,show (255-((n % 256:Nat):Int)) % 256=((255-n % 256:Nat):Int) from by omega,show (255-((n / 256:Nat):Int)) % 256=((255-n / 256:Nat):Int) from by omega,show ((n:Nat):Int) % 256=((n % 256:Nat):Int) from by omega]
   obtain ⟨σ5,h5⟩:∃ σ5,σ5=(σ4.bump 21).put (σ4.next+14) (some (Blk.rw [AV.int IntKind.u8 (((n:Nat):Int) % 256),AV.int IntKind.u8 (((n / 256:Nat):Int) % 256),AV.int IntKind.u8 ((255-((n % 256:Nat):Int)) % 256),AV.int IntKind.u8 ((255-((n / 256:Nat):Int)) % 256)])):=⟨_,rfl⟩
   rw [<- h5]
   have s5:σ4.Same σ5:=by rw [h5];repeat (with_reducible first | exact Mem.Same.refl _ | refine Mem.Same.bump ?_ _ | refine Mem.Same.put ?_ (by omega) _)
   clear h5
   obtain ⟨o5,hwo5,s05,st5⟩:=(lone4.same s5).step
   refine And.intro (show (0:Int)<=0/\(0:Int)<=(n:Nat)/\((n:Nat):Int)<=(d.size:Nat) by omega) ?_
   rw [Int.toNat_natCast,Int.toNat_zero]
   have h4':(hdB n).size=4:=rfl
   refine And.intro (show (hdB n).size+(d.extract 0 n).size<=_ by omega) ?_
   refine z0 (zb3 (s:=hdB n++d.extract 0 n) hwo5 (by rw [h2];omega) (by rw [ByteArray.size_append];omega)) ?_
   rintro _ σ6 ⟨rfl,h6⟩
   have lone6:z7o σ σ6 w (stB n d p):=by
    have:=st5 _ (laS (laP p (z57 n d:Nat) 3) (hdB n++d.extract 0 n)) h6
    rw [<- zpU] at this
    exact this
   refine And.intro (show (0:Int)<=(n:Nat)/\((n:Nat):Int)<=(d.size:Nat)/\((d.size:Nat):Int)<=(d.size:Nat) by omega) ?_
   rw [Int.toNat_natCast,Int.toNat_natCast]
   have hz2:=size_extract d n d.size
   rw [Nat.min_self] at hz2
   by_cases hnd:n<d.size
   · refine ifF (by unfold z57;rw [if_neg (by omega)];decide) ?_
     obtain rfl:n=65535:=by omega
     have hb:(stB 65535 d p).2+50*((d.extract 65535 d.size).size+1)<=50*(s.size+1):=by omega
     refine again ⟨(d.extract 65535 d.size).size+1,⟨stB 65535 d p,lone6.same ((Mem.Same.refl σ6).bump _),?_,hb,rfl,?_⟩,?_⟩
     · show (d.extract 65535 d.size).size<=s.size
       omega
     · rw [<- hT',zcB hnd]
       exact (z6b (by omega)).symm
     · omega
   · obtain rfl:n=d.size:=by omega
     refine ifT (by unfold z57;rw [if_pos rfl];rfl) ?_
     rw [zd0 (by omega)] at hT'
     rw [hT'] at lone6
     obtain ⟨o7,hwo7,s07,_⟩:=(lone6.same ((Mem.Same.refl σ6).bump 9)).step
     refine z0 (z4a hwo7) ?_
     rintro _ σ8 ⟨rfl,s8⟩
     exact ⟨rfl,s07.trans s8⟩
end Go.Vit
end
