/- The library. -/
import Derived.Test.YtloeboiajgfigaaGreatV7T
import Derived.Test.YtloeboiajgfigaaGreatVm3
import Derived.Test.YtloeboiajgfigaaGreatV7Z
set_option linter.unusedVariables false
set_option linter.unusedSimpArgs false
section
/- The parts of lengths and distances. -/
set_option maxRecDepth 20000
namespace Go.Vit
open Go.Proofs
def z0k (n:Nat):Nat:=(List.range 29).foldl (λb j=>if zeC (257+j)<=n then 257+j else b) 257
def z27 (n:Nat):Nat:=(List.range 30).foldl (λb j=>if zez j<=n then j else b) 0
theorem zi0:∀ n:Fin 11,3<=n.val->z0k n=254+n.val/\zeC (z0k n)=n.val/\zav (z0k n)=0:=by decide +kernel
theorem zao:z0k 258=285/\zeC 285=258/\zav 285=0:=by decide +kernel
theorem zlc:∀ n:Fin 258,11<=n.val->∀ k:Fin 8,(n.val-3) / 2^k.val<8->(k.val≠0->8<=(n.val-3) / 2^(k.val-1))->257+4*k.val+(n.val-3) / 2^k.val=z0k n/\(n.val-3) % 2^k.val=n.val-zeC (z0k n)/\k.val=zav (z0k n):=by decide +kernel
theorem zhE:∀ n:Fin 259,3<=n.val->257<=z0k n/\z0k n<=285/\zeC (z0k n)<=n.val/\n.val-zeC (z0k n)<2^zav (z0k n):=by decide +kernel
theorem zgN:∀ n:Fin 5,1<=n.val->z27 n=n.val-1/\zez (z27 n)=n.val/\zev (z27 n)=0:=by decide +kernel
theorem zkE:∀ n:Fin 513,5<=n.val->∀ k:Fin 9,(n.val-1) / 2^k.val<4->(k.val≠0->4<=(n.val-1) / 2^(k.val-1))->2*k.val+(n.val-1) / 2^k.val=z27 n/\(n.val-1) % 2^k.val=n.val-zez (z27 n)/\k.val=zev (z27 n):=by decide +kernel
theorem zha:∀ n:Fin 513,1<=n.val->z27 n<=29/\zez (z27 n)<=n.val/\n.val-zez (z27 n)<2^zev (z27 n):=by decide +kernel
def part (a b c:Int):AV:=.agg [.int .i64 a,.int .i64 b,.int .i64 c]
theorem zdC {σ:Mem} {b:Nat} {x y z u v w:Int} {K:AV->Mem->Prop} (h:σ.get b=some (.rw [.int .i64 u,.int .i64 v,.int .i64 w])) (hk:∀ σ',σ'=σ.put b (some (.rw [.int .i64 x,.int .i64 y,.int .i64 z]))->K (part x y z) σ') :
 stW 3 σ (.ptr b 0) (.agg [.int .i64 x,.int .i64 y,.int .i64 z]) λσ'=>z5x 3 σ' (.ptr b 0) λv=>K v σ':=by
 refine stn h (by simp) rfl rfl ?_
 refine ldnq gS' rfl (by simp [setAt]) ?_
 exact hk _ rfl
theorem z9P {n:Nat} (h1:3<=n) (h2:n<=258) (σ:Mem) :
 z1 PG z3B [.int .i64 (n:Nat)] σ λv σ'=>v=part (z0k n:Nat) (n-zeC (z0k n):Nat) (zav (z0k n):Nat)/\σ.Same σ':=by
 refine zch λlive=>?_
 unfold z7V
 refine To.go ?_
 refine ifD (λh=>?_) (λh=>?_)
 · refine zdC (gB gS') λσ' e=>⟨?_,?_⟩
   · obtain rfl:n=258:=by omega
     rw [zao.1,zao.2.1,zao.2.2];rfl
   · subst e;repeat (with_reducible first | exact Mem.Same.refl _ | refine Mem.Same.bump ?_ _ | refine Mem.Same.put ?_ (by omega) _)
 · refine ifD (λh11=>?_) (λh11=>?_)
   · refine z6 (by omega) ?_
     refine z6 (by omega) ?_
     have:=zi0 ⟨n,by omega⟩ h1
     dsimp only at this
     refine zdC (gB gS') λσ' e=>⟨?_,?_⟩
     · rw [this.2.1,this.2.2,this.1,show n-n=0 from by omega,show 257+((n:Nat):Int)-3=((254+n:Nat):Int) from by omega];rfl
     · subst e;repeat (with_reducible first | exact Mem.Same.refl _ | refine Mem.Same.bump ?_ _ | refine Mem.Same.put ?_ (by omega) _)
   · refine z6 (by omega) ?_
     obtain ⟨m,hm⟩:∃ m,n-3=m:=⟨_,rfl⟩
     rw [show ((n:Nat):Int)-3=((m:Nat):Int) from by omega]
     refine loop1 (λ(k:Nat) (x:Int) σ'=>x=k/\k<=6/\(k≠0->8<=m / 2^(k-1))/\σ.Same σ'/\σ.next<σ'.next/\σ'.get σ.next=some (.rw [.int .i64 0,.int .i64 0,.int .i64 0])) (λk=>7-k) 0 ⟨rfl,by omega,λh=>absurd rfl h,by repeat (with_reducible first | exact Mem.Same.refl _ | refine Mem.Same.bump ?_ _ | refine Mem.Same.put ?_ (by omega) _),by simp only [Mem.next_put,Mem.next_bump];omega,gB gS'⟩ ?_
     rintro k _ σ1 ⟨rfl,hk,hk1,s1,n1,g1⟩
     unfold z68
     have hdiv:m / 2^k<=m:=Nat.div_le_self _ _
     have hk6:k=6->m / 2^k<8:=by
      rintro rfl
      show m / 64<8;omega
     have hmod:((m:Nat):Int) % 2^k=((m % 2^k:Nat):Int):=by simp
     have hdv:((m:Nat):Int) / 2^k=((m / 2^k:Nat):Int):=by simp
     have hp:2^k<=2^6:=z1D hk
     have hp1:=Nat.pow_pos (n:=k) (show 0<2 by decide)
     have hs:=zlc ⟨n,by omega⟩
     dsimp only at hs
     have hs:=λh=>hs h ⟨k,by omega⟩
     dsimp only at hs
     rw [hm] at hs
     have hpw:(1:Int)*2^k=((2^k:Nat):Int):=by simp
     refine To.go ?_
     refine And.intro (by omega) ?_
     rw [Int.toNat_natCast,hdv]
     have hk1':8<=m / 2^k->k+1≠0->8<=m / 2^(k+1-1):=λh _=>by rw [Nat.add_sub_cancel];exact h
     obtain ⟨q,hq⟩:∃ q,m / 2^k=q:=⟨_,rfl⟩
     rw [hq] at hdiv hk6 hdv hs hk1' ⊢
     refine ifD (λh8=>?_) (λh8=>?_)
     · refine z6 (by omega) ?_
       refine again ⟨k+1,⟨by omega,by omega,hk1' (by omega),s1.bump _,by simp only [Mem.next_bump];omega,gB g1⟩,by omega⟩
     · refine z6 (by omega) ?_
       refine z6 (by omega) ?_
       refine To.go ?_
       refine And.intro (by omega) ?_
       rw [Int.toNat_natCast,hdv]
       refine z6 (by omega) ?_
       refine To.go ?_
       refine And.intro (by omega) ?_
       rw [Int.toNat_natCast,hpw]
       obtain ⟨e1,e2,e3⟩:=hs (by omega) (by omega) hk1
       refine z6 (by omega) ?_
       refine z6 (by omega) ?_
       refine To.go ?_
       rw [show ((2^k:Nat):Int)-1=((2^k-1:Nat):Int) from by omega]
       rw [zb0 (by omega) (by omega) (by omega)]
       refine zdC (gB g1) λσ' e=>⟨?_,?_⟩
       · rw [hmod,Int.toNat_natCast,e2,<- e3,<- e1]
         rw [show ((257+4*k+q:Nat):Int)=257+4*(k:Int)+((q:Nat):Int) from by push_cast;rfl]
       · subst e
         exact Mem.Same.put (s1.bump _) (Nat.le_refl _) _
theorem z85 {n:Nat} (h1:1<=n) (h2:n<=512) (σ:Mem) :
 z1 PG z2q [.int .i64 (n:Nat)] σ λv σ'=>v=part (z27 n:Nat) (n-zez (z27 n):Nat) (zev (z27 n):Nat)/\σ.Same σ':=by
 refine za3 λlive=>?_
 unfold z6t
 refine To.go ?_
 refine z6 (by omega) ?_
 obtain ⟨m,hm⟩:∃ m,n-1=m:=⟨_,rfl⟩
 rw [show ((n:Nat):Int)-1=((m:Nat):Int) from by omega]
 refine ifD (λh=>?_) (λh=>?_)
 · have:=zgN ⟨n,by omega⟩ h1
   dsimp only at this
   refine zdC (gB gS') λσ' e=>⟨?_,?_⟩
   · rw [this.2.1,this.2.2,this.1,show n-n=0 from by omega,hm];rfl
   · subst e;repeat (with_reducible first | exact Mem.Same.refl _ | refine Mem.Same.bump ?_ _ | refine Mem.Same.put ?_ (by omega) _)
 · refine loop1 (λ(k:Nat) (x:Int) σ'=>x=k/\k<=8/\(k≠0->4<=m / 2^(k-1))/\σ.Same σ'/\σ.next<σ'.next/\σ'.get σ.next=some (.rw [.int .i64 0,.int .i64 0,.int .i64 0])) (λk=>9-k) 0 ⟨rfl,by omega,λh=>absurd rfl h,by repeat (with_reducible first | exact Mem.Same.refl _ | refine Mem.Same.bump ?_ _ | refine Mem.Same.put ?_ (by omega) _),by simp only [Mem.next_put,Mem.next_bump];omega,gB gS'⟩ ?_
   rintro k _ σ1 ⟨rfl,hk,hk1,s1,n1,g1⟩
   unfold z4J
   have hdiv:m / 2^k<=m:=Nat.div_le_self _ _
   have hk6:k=8->m / 2^k<4:=by
    rintro rfl
    show m / 256<4;omega
   have hmod:((m:Nat):Int) % 2^k=((m % 2^k:Nat):Int):=by simp
   have hdv:((m:Nat):Int) / 2^k=((m / 2^k:Nat):Int):=by simp
   have hp:2^k<=2^8:=z1D hk
   have hp1:=Nat.pow_pos (n:=k) (show 0<2 by decide)
   have hs:=zkE ⟨n,by omega⟩
   dsimp only at hs
   have hs:=λh=>hs h ⟨k,by omega⟩
   dsimp only at hs
   rw [hm] at hs
   have hpw:(1:Int)*2^k=((2^k:Nat):Int):=by simp
   refine To.go ?_
   refine And.intro (by omega) ?_
   rw [Int.toNat_natCast,hdv]
   have hk1':4<=m / 2^k->k+1≠0->4<=m / 2^(k+1-1):=λh _=>by rw [Nat.add_sub_cancel];exact h
   obtain ⟨q,hq⟩:∃ q,m / 2^k=q:=⟨_,rfl⟩
   rw [hq] at hdiv hk6 hdv hs hk1' ⊢
   refine ifD (λh8=>?_) (λh8=>?_)
   · refine z6 (by omega) ?_
     refine again ⟨k+1,⟨by omega,by omega,hk1' (by omega),s1.bump _,by simp only [Mem.next_bump];omega,gB g1⟩,by omega⟩
   · refine z6 (by omega) ?_
     refine To.go ?_
     refine And.intro (by omega) ?_
     rw [Int.toNat_natCast,hdv]
     refine z6 (by omega) ?_
     refine To.go ?_
     refine And.intro (by omega) ?_
     rw [Int.toNat_natCast,hpw]
     obtain ⟨e1,e2,e3⟩:=hs (by omega) (by omega) hk1
     refine z6 (by omega) ?_
     refine z6 (by omega) ?_
     refine To.go ?_
     rw [show ((2^k:Nat):Int)-1=((2^k-1:Nat):Int) from by omega]
     rw [zb0 (by omega) (by omega) (by omega)]
     refine zdC (gB g1) λσ' e=>⟨?_,?_⟩
     · rw [hmod,Int.toNat_natCast,e2,<- e3,<- e1]
       rw [show ((2*k+q:Nat):Int)=2*(k:Int)+((q:Nat):Int) from by push_cast;rfl]
     · subst e
       exact Mem.Same.put (s1.bump _) (Nat.le_refl _) _
end Go.Vit
end
section
/- Lists that are cut short, repeated, put together. -/
set_option maxRecDepth 20000
namespace Go.Vit
open Go.Proofs
theorem zmK {L:List Int} {n i:Nat} (h:i<n):(L.take n).getD i 0=L.getD i 0:=by
 rw [List.getD_eq_getElem?_getD,List.getElem?_take_of_lt h,<- List.getD_eq_getElem?_getD]
theorem z8T {a:AV} {L:List Int} {least:Nat} {σ:Mem} (ha:RdC σ a L) (hl:L.length<=2^40) (h40:least<=2^40) :
 z1 PG z3q [a,.int .i64 (least:Nat)] σ λw σ'=>RdC σ' w (tld least L)/\z3 w=z3 a/\σ.Same σ':=by
 refine zdu λlive=>?_
 unfold z9H
 have hla:=ha.o.lt live
 refine loop1 (λ(n:Nat) (v:AV) σ'=>n<=L.length/\RdC σ v (L.take n)/\z3 v=z3 a/\told least L n=tld least L/\σ.Same σ') (λn=>n) L.length ⟨Nat.le_refl _,by rw [List.take_length];exact ha,rfl,rfl,(Mem.Same.refl σ).bump _⟩ ?_
 rintro n v σ1 ⟨hn,hv,hb,ht,s1⟩
 unfold z76
 have hf:∀ {σ':Mem},σ.Same σ'->∀ b∈z3 v,σ'.get b=σ.get b:=λs b h=>s.get b (hla b (by rw [<- hb];exact h))
 have hlen:(L.take n).length=n:=by rw [List.length_take];omega
 have stop:¬ (least<n/\L.getD (n-1) 0=0)->∀ k,RdC (σ1.bump k) v (tld least L)/\z3 v=z3 a/\σ.Same (σ1.bump k):=by
  intro h k
  have e:tld least L=L.take n:=by
   rw [<- ht]
   cases n with
   | zero=>rfl
   | succ n=>rw [told,if_neg (by simpa using h)]
  rw [e]
  exact ⟨hv.keep (hf (s1.bump k)),hb,s1.bump k⟩
 have hv1:=hv.keep (hf s1)
 refine hv1.o.len ?_
 rw [hlen]
 refine ifD (λh1=>?_) (λh1=>?_)
 · refine hv1.o.len ?_
   rw [hlen]
   refine z6 (by omega) ?_
   refine hv1.o.rd (σ':=σ1.bump 13) (λ_ _=>rfl) (i:=n-1) (by omega) (by omega) ?_
   rw [zmK (by omega)]
   refine ifD (λh2=>?_) (λh2=>?_)
   · refine hv1.o.len ?_
     rw [hlen]
     refine z6 (by omega) ?_
     refine hv1.cut (m:=n-1) (by omega) (by omega) ?_
     intro w hw hbw
     rw [List.take_take,Nat.min_eq_left (by omega)] at hw
     refine again ⟨n-1,⟨by omega,hw.keep λb h=>?_,hbw.trans hb,?_,s1.bump _⟩,by omega⟩
     · rw [hbw] at h;exact (hf s1 b h).symm
     · rw [<- ht]
       obtain ⟨m,rfl⟩:∃ m,n=m+1:=⟨n-1,by omega⟩
       rw [Nat.add_sub_cancel] at h2 ⊢
       exact (if_pos ⟨by omega,h2⟩).symm
   · exact stop (λh=>h2 h.2) _
 · exact stop (λh=>h1 (by omega)) _
/-! ### Lists put together -/
def Gr (σ0 σ:Mem) (v:AV) (L:List Int):Prop:=(v=.nils/\L=[])\/∃ b cells,v=.slice b 0 L.length (.op 1)/\σ.get b=some (.rw cells)/\cells.all AV.one=true/\L.length<=cells.length/\cells.take L.length=ic L/\σ0.next<=b/\b<σ.next
theorem Gr.same {σ0 σ σ':Mem} {v:AV} {L:List Int} (h:Gr σ0 σ v L) (s:σ.Same σ'):Gr σ0 σ' v L:=by
 rcases h with h | ⟨b,cells,h1,h2,h3,h4,h5,h6,h7⟩
 · exact .inl h
 · exact .inr ⟨b,cells,h1,(s.get b h7).trans h2,h3,h4,h5,h6,Nat.lt_of_lt_of_le h7 s.next⟩
theorem Gr.o {σ0 σ:Mem} {v:AV} {L:List Int} (h:Gr σ0 σ v L):RdO 1 σ v (ic L) L.length:=by
 rcases h with ⟨h1,h2⟩ | ⟨b,cells,h1,h2,h3,h4,h5,_⟩
 · subst h2;exact .inl ⟨h1,rfl,rfl⟩
 · exact .inr ⟨b,0,_,h1,by rw [z0j,Nat.mul_one],_,cells,h2,rfl,by rw [List.drop_zero,Nat.mul_one];exact h5,by omega⟩
theorem Gr.fresh {σ0 σ:Mem} {v:AV} {L:List Int} (h:Gr σ0 σ v L):(∀ b∈z3 v,σ0.next<=b/\b<σ.next)/\v.one=true:=by
 rcases h with ⟨h1,_⟩ | ⟨b,cells,h1,h2,h3,h4,h5,h6⟩
 · subst h1;exact ⟨λb hb=>by simp [z3] at hb,rfl⟩
 · subst h1;exact ⟨λb' hb=>by simp only [z3,List.mem_singleton] at hb;subst hb;exact h6,rfl⟩
theorem ziG {n:Nat} {σ:Mem} (hn:n<=2^40):z1 PG z1M [.nils,.int .i64 (n:Nat)] σ λw σ'=>Gr σ σ' w []/\σ.Same σ':=by
 refine z6J λlive=>?_
 unfold z3M
 refine zu ?_
 refine ifF (by omega) ?_
 unfold z2Q
 refine To.go ?_
 refine To.go ?_
 refine z6 (by omega) ?_
 refine z6 (by omega) ?_
 refine zu ?_
 refine ifD (λh=>?_) (λh=>?_)
 · refine To.go ?_
   refine And.intro (show (0:Int)<=0/\(0:Int)<=0/\(0:Int)<=((0:Nat):Int) by decide) ?_
   refine And.intro (λh0=>by omega) (λ_=>⟨⟨by omega,?_⟩,rfl,?_⟩)
   · rw [show ((n:Nat):Int)-(0-0)=(n:Nat) from by omega,Int.toNat_natCast]
     exact ⟨by omega,by omega⟩
   · refine To.go ?_
     refine And.intro ⟨rfl,Int.le_refl _,show (0:Int)<=0 by decide,show (0:Int)<=((_:Nat):Int) by omega⟩ ?_
     unfold z1a
     refine ⟨.inr ⟨σ.next+3+15,_,rfl,gB gS',?_,by simp,by simp [ic],?_⟩,?_⟩
     · rw [List.all_eq_true]
       intro x hx
       obtain ⟨l,h1,h2⟩:=List.mem_flatten.1 hx
       rw [List.eq_of_mem_replicate h1,List.mem_singleton] at h2
       subst h2;rfl
     · simp only [Mem.next_put,Mem.next_bump];omega
     · repeat (with_reducible first | exact Mem.Same.refl _ | refine Mem.Same.bump ?_ _ | refine Mem.Same.put ?_ (by (simp only [Mem.next_bump,Mem.next_put];omega)) _)
 · unfold z1a
   exact ⟨.inl ⟨rfl,rfl⟩,(((Mem.Same.refl σ).bump _).bump _).bump _⟩
end Go.Vit
end
section
/- Lists put together, and repeated. -/
set_option maxRecDepth 20000
namespace Go.Vit
open Go.Proofs
theorem Gr.push {σ0 σ:Mem} {v x:AV} {L M:List Int} {id:Nat} {K:AV->Mem->Prop} (h:Gr σ0 σ v L) (hx:RdO 1 σ x (ic M) M.length) (hid:σ0.next<=id) (hlt:id<σ.next) (hne:id ∉ z3 v) (hr:L.length+M.length<=2^40)
 (hk:∀ v' σ',Gr σ0 σ' v' (L++M)->σ'.next=σ.next->(∀ b,b ∉ z3 v->b≠id->σ'.get b=σ.get b)->(∀ b∈z3 v',b∈z3 v\/b=id)->K v' σ'):apW 1 8 id σ v x K:=by
 unfold apW
 refine zir hx _ ⟨z3s _,?_⟩
 rcases h with ⟨rfl,rfl⟩ | ⟨b,cells,rfl,hg,h3,h4,h5,h6,h7⟩
 · refine ⟨λe=>?_,λe=>⟨⟨by simp only [List.length_nil] at hr;omega,by simp only [List.length_nil] at hr;omega⟩,?_⟩⟩
   · refine hk _ _ (.inl ⟨rfl,?_⟩) rfl (λ_ _ _=>rfl) (λb hb=>.inl hb)
     rw [List.nil_append];exact List.length_eq_zero_iff.1 e
   · refine hk _ _ (.inr ⟨id,ic M,by simp,gS',z3s _,by rw [z0j];simp,by rw [List.nil_append,<- z0j M,List.take_length],hid,by rw [Mem.next_put];exact hlt⟩) rfl (λb _ hb=>Mem.get_put_ne _ hb _) (λb hb=>?_)
     simp [z3] at hb;exact .inr hb
 · simp only [z3,List.mem_singleton] at hne
   refine ⟨λe=>?_,λe=>?_⟩
   · have:M=[]:=List.length_eq_zero_iff.1 e
     subst this
     refine hk _ _ (.inr ⟨b,cells,by rw [List.append_nil],hg,h3,by rw [List.append_nil];exact h4,by rw [List.append_nil];exact h5,h6,h7⟩) rfl (λ_ _ _=>rfl) (λb hb=>.inl hb)
   · refine opt hg ?_
     refine ⟨⟨rfl,rfl,by omega⟩,⟨by omega,by omega⟩,h3,?_⟩
     rw [Nat.mul_one,h5,<- z3k]
     refine hk _ _ (.inr ⟨id,_,by rw [List.length_append],gS',z3s _,by rw [z0j];omega,by rw [<- z0j (L++M),List.take_length],hid,by simp only [Mem.next_put];exact hlt⟩) rfl (λb' hb' hb=>?_) (λb hb=>?_)
     · simp [z3] at hb'
       rw [Mem.get_put_ne _ hb,Mem.get_put_ne _ hb']
     · simp [z3] at hb;exact .inr hb
theorem zhv {Ls:List (List Int)} {i:Nat} (h:i<Ls.length):(Ls.take (i+1)).flatten=(Ls.take i).flatten++Ls[i]:=by
 rw [List.take_succ_eq_append_getElem h,List.flatten_append];simp
theorem z7w (Ls:List (List Int)) (i:Nat):(Ls.take i).flatten.length<=Ls.flatten.length:=by
 have:Ls.flatten=(Ls.take i).flatten++(Ls.drop i).flatten:=by rw [<- List.flatten_append,List.take_append_drop]
 rw [this,List.length_append];omega
theorem zb3 {ab k:Nat} {c:Cap} {vs:List AV} {Ls:List (List Int)} {σ:Mem} (hg:σ.get ab=some (.rw vs)) (hvl:vs.length=k) (hL:Ls.length=k) (hab:ab<σ.next) (hk30:k<=2^30)
 (hv:∀ (i:Nat) (v:AV) (M:List Int),vs[i]? = some v->Ls[i]? = some M->RdO 1 σ v (ic M) M.length/\∀ b∈z3 v,b<σ.next) (ht:Ls.flatten.length<=2^30) :
 z1 PG z0h [.slice ab 0 k c] σ λw σ'=>Gr σ σ' w Ls.flatten/\σ.Same σ':=by
 refine z6c λlive=>?_
 unfold z37
 refine To.go ?_
 have rd:∀ (σ':Mem) (i:Nat) (K:AV->Prop),σ.Same σ'->(hi:i<k)->K (vs[i]'(by omega))->∀ n,zz 1 (.slice ab 0 k c) (i:Nat) λp=>ldW (σ'.bump n) p K:=by
  intro σ' i K s hi hK n
  refine And.intro (show (0:Int)<=(i:Nat)/\((i:Nat):Int)<(k:Nat) by omega) ?_
  rw [Int.toNat_natCast,Nat.zero_add,Nat.mul_one]
  exact ldrw (σ:=σ'.bump n) ((s.get ab hab).trans hg) (List.getElem?_eq_getElem (by omega)) hK
 have hvi:∀ i (hi:i<k),RdO 1 σ (vs[i]'(by omega)) (ic (Ls[i]'(by omega))) (Ls[i]'(by omega)).length/\∀ b∈z3 (vs[i]'(by omega)),b<σ.next:=λi hi=>hv i _ _ (List.getElem?_eq_getElem (by omega)) (List.getElem?_eq_getElem (by omega))
 refine loop2 (λ(i:Nat) (x y:Int) σ'=>x=((Ls.take i).flatten.length:Nat)/\y=i/\i<=k/\σ.Same σ') (λi=>k-i) 0 ⟨rfl,rfl,by omega,(Mem.Same.refl σ).bump _⟩ ?_
 rintro i _ _ σ1 ⟨rfl,rfl,hi,s1⟩
 unfold z2e
 have hle:=z7w Ls i
 refine ifD (λhlt=>?_) (λhge=>?_)
 · have hik:i<k:=by omega
   refine rd σ1 i _ s1 hik ?_ 4
   obtain ⟨r1,r2⟩:=hvi i hik
   refine (r1.keep (σ':=σ1) λb hb=>s1.get b (r2 b hb)).len ?_
   have hle':=z7w Ls (i+1)
   have e:(Ls.take (i+1)).flatten.length=(Ls.take i).flatten.length+(Ls[i]'(by omega)).length:=by rw [zhv (by omega),List.length_append]
   refine z6 (by omega) ?_
   refine zu ?_
   refine ifF (by omega) ?_
   unfold z2c
   refine z6 (by omega) ?_
   exact again ⟨i+1,⟨by omega,by omega,by omega,(s1.bump _).bump _⟩,by omega⟩
 · obtain rfl:i=k:=by omega
   have e:Ls.take i=Ls:=List.take_of_length_le (by omega)
   rw [e]
   refine z0 (ziG (σ:=σ1.bump 4) (by omega)) ?_
   rintro w σ2 ⟨gr,s2⟩
   have s02:=(s1.bump 4).trans s2
   refine To.go ?_
   have gr0:Gr σ σ2 w []:=by
    rcases gr with h | ⟨b,cells,h1,h2,h3,h4,h5,h6,h7⟩
    · exact .inl h
    · exact .inr ⟨b,cells,h1,h2,h3,h4,h5,by have:=s1.next;simp only [Mem.next_bump] at h6;omega,h7⟩
   refine loop2 (λ(j:Nat) (v:AV) (y:Int) σ'=>y=j/\j<=i/\σ.Same σ'/\Gr σ σ' v (Ls.take j).flatten) (λj=>i-j) 0 ⟨rfl,by omega,s02.bump _,by rw [List.take_zero];exact gr0.same ((Mem.Same.refl σ2).bump _)⟩ ?_
   rintro j v _ σ3 ⟨rfl,hj,s3,g3⟩
   unfold z2b
   refine ifD (λhlt=>?_) (λhge=>?_)
   · have hji:j<i:=by omega
     refine rd σ3 j _ s3 hji ?_ 4
     obtain ⟨r1,r2⟩:=hvi j hji
     have hle1:=z7w Ls j
     have hle':=z7w Ls (j+1)
     have e:(Ls.take (j+1)).flatten=(Ls.take j).flatten++(Ls[j]'(by omega)):=zhv (by omega)
     have e2:=congrArg List.length e
     rw [List.length_append] at e2
     have n3:=s3.next
     refine Gr.push (σ:=σ3.bump 8) (g3.same ((Mem.Same.refl σ3).bump 8)) (r1.keep λb hb=>s3.get b (r2 b hb)) (by omega) (by simp only [Mem.next_bump];omega) (λh=>by have:=(g3.fresh.1 _ h).2;omega) (by omega) ?_
     intro v' σ4 g4 hn4 hg4 hb4
     refine z6 (by omega) ?_
     simp only [Mem.next_bump] at hn4
     refine again ⟨j+1,⟨by omega,by omega,⟨by simp only [Mem.next_bump];omega,λb hb=>?_⟩,?_⟩,by omega⟩
     · refine (hg4 b (λh=>by have:=(g3.fresh.1 _ h).1;omega) (by omega)).trans (s3.get b hb)
     · rw [e];exact g4.same ((Mem.Same.refl σ4).bump _)
   · obtain rfl:j=i:=by omega
     rw [e] at g3
     exact ⟨g3.same ((Mem.Same.refl σ3).bump _),s3.bump _⟩
/-! ### Repeated -/
theorem zgk {x:Nat} (hx:x<2^32):zB .and .u64 (x:Int) 4294967295=(x:Int):=by
 show IntKind.u64.wrap (((BitVec.ofInt 64 (x:Int) &&& BitVec.ofInt 64 4294967295).toNat:Nat):Int)=_
 rw [show BitVec.ofInt 64 (x:Int)=BitVec.ofNat 64 x from by simp,show BitVec.ofInt 64 4294967295=BitVec.ofNat 64 (2^32-1) from rfl,BitVec.toNat_and,BitVec.toNat_ofNat,BitVec.toNat_ofNat,Nat.mod_eq_of_lt (by omega),Nat.mod_eq_of_lt (by omega),Nat.and_two_pow_sub_one_eq_mod,Nat.mod_eq_of_lt hx,IntKind.wrap_u64]
 omega
theorem znh {n:Nat} (hn:n<2^32) (σ:Mem):z1 PG z5W [.int .u64 1,.int .u64 (n:Nat)] σ λw σ'=>w=.tup [.int .u64 0,.int .u64 (n:Nat)]/\σ.Same σ':=by
 refine zcS λlive=>?_
 unfold z8R
 refine z0 (Q:=λw σ'=>w=.tup [.int .u64 0,.int .u64 (n:Nat)]/\(σ.bump 10).Same σ') (zaw λ_=>?_) ?_
 · unfold z6W
   rw [zgk hn,show zB .and .u64 1 4294967295=1 from zgk (x:=1) (by decide)]
   have e0:zB .and .u64 0 4294967295=0:=zgk (x:=0) (by decide)
   have z:((n:Nat):Int) / 4294967296=0:=by omega
   have w1:(1*((n:Nat):Int)) % 18446744073709551616=n:=by omega
   rw [z]
   refine To.go ?_
   refine To.go ?_
   refine To.go ?_
   refine To.go ?_
   refine To.go ?_
   rw [w1,show (1:Int) / 4294967296=0 from rfl,z,Int.zero_mul]
   show wrW .u64 0 _
   refine To.go ?_
   refine To.go ?_
   refine To.go ?_
   show z4j (zB .and .u64 0 4294967295) _
   rw [e0]
   refine To.go ?_
   refine To.go ?_
   show wrW .u64 0 _
   refine To.go ?_
   show wrW .u64 0 _
   refine To.go ?_
   show wrW .u64 0 _
   refine To.go ?_
   show wrW .u64 0 _
   refine To.go ?_
   refine To.go ?_
   show wrW .u64 0 _
   refine To.go ?_
   rw [show wrW .u64 (1*((n:Nat):Int))=wrW .u64 (n:Nat) from by rw [Int.one_mul]]
   refine To.go ?_
   rw [show ((n:Nat):Int) % 18446744073709551616=n from by omega]
   exact ⟨rfl,(Mem.Same.refl _).bump _⟩
 · rintro _ σ1 ⟨rfl,s1⟩
   refine z43 (x:=.int .u64 0) rfl ?_
   refine To.go ?_
   refine z43 (x:=.int .u64 (n:Nat)) rfl ?_
   refine To.go ?_
   exact ⟨rfl,s1.ob.bump _⟩
end Go.Vit
end
section
/- Repeated numbers. -/
set_option maxRecDepth 20000
namespace Go.Vit
open Go.Proofs
def rp (v:Int) (s n:Nat):List AV:=ic (List.replicate s v)++ic (List.replicate (n-s) 0)
theorem zmT {v:Int} {s n:Nat} (h:s<=n):(rp v s n).length=n:=by
 unfold rp;rw [List.length_append,z0j,z0j,List.length_replicate,List.length_replicate];omega
theorem zqj (v:Int) (n:Nat):rp v n n=ic (List.replicate n v):=by
 unfold rp;rw [Nat.sub_self];simp [ic]
theorem zmm {v:Int} {s m n:Nat} (h:s+m<=n):setAt (rp v s n) s (ic (List.replicate m v))=rp v (s+m) n:=by
 have e:rp v s n=ic (List.replicate s v)++(ic (List.replicate m 0)++ic (List.replicate (n-(s+m)) 0)):=by
  unfold rp
  rw [<- z3k (List.replicate m 0),List.replicate_append_replicate,show m+(n-(s+m))=n-s from by omega]
 have h1:=zaD (ic (List.replicate m v)) (ic (List.replicate s v)) (ic (List.replicate m 0)) (ic (List.replicate (n-(s+m)) 0)) (by rw [z0j,z0j,List.length_replicate,List.length_replicate])
 rw [z0j,List.length_replicate] at h1
 rw [e,h1,<- List.append_assoc,<- z3k,List.replicate_append_replicate]
 rfl
theorem znD {v:Int} {s m n:Nat} (h:m<=s):(rp v s n).take m=ic (List.replicate m v):=by
 unfold rp
 rw [List.take_append_of_le_length (by rw [z0j,List.length_replicate];exact h)]
 unfold ic
 rw [<- List.map_take,List.take_replicate,Nat.min_eq_left h]
theorem zfR {b n:Nat} {v:Int} {c:Cap} {σ:Mem} (hg:σ.get b=some (.rw [.int .i64 v])) (hb:b<σ.next) (hn:1<=n) (hn2:n<=2^20) :
 z1 PG zo [.slice b 0 1 c,.int .i64 (n:Nat)] σ λw σ'=>RdX σ' w (List.replicate n v)/\(∀ b∈z3 w,σ.next<=b/\b<σ'.next)/\σ.Same σ':=by
 refine z5S λlive=>?_
 unfold z35
 refine zu ?_
 refine ifF (by omega) ?_
 unfold z26
 refine To.go ?_
 refine To.go ?_
 refine To.go ?_
 rw [show ((1:Nat):Int) % 18446744073709551616=1 from rfl,show ((n:Nat):Int) % 18446744073709551616=(n:Nat) from by omega]
 refine z0 (znh (by omega) _) ?_
 rintro _ σ1 ⟨rfl,s1⟩
 replace s1:=s1.ob.bump 0
 refine z43 (x:=.int .u64 0) rfl ?_
 refine To.go ?_
 refine z43 (x:=.int .u64 (n:Nat)) rfl ?_
 refine To.go ?_
 refine ifF (by decide) ?_
 refine zu ?_
 refine ifF (by omega) ?_
 unfold z28
 refine z6 (by omega) ?_
 refine And.intro (by omega) ?_
 rw [Int.toNat_natCast]
 refine To.go ?_
 have s01:σ.Same σ1:=⟨by have:=s1.next;simp only [Mem.next_bump] at this;omega,λb hb=>s1.get b (by simp only [Mem.next_bump];omega)⟩
 have n1:=s01.next
 obtain ⟨σ2,h2⟩:∃ σ2,σ2=σ1.bump 6:=⟨_,rfl⟩
 rw [<- h2]
 have n2:σ2.next=σ1.next+6:=by rw [h2];rfl
 have s2:σ1.Same σ2:=by rw [h2];exact (Mem.Same.refl σ1).bump _
 clear h2
 obtain ⟨nb,hnb⟩:∃ nb,σ2.next+2=nb:=⟨_,rfl⟩
 rw [hnb]
 obtain ⟨σ3,h3⟩:∃ σ3,σ3=((σ2.bump 4).put nb (some (.rw (repl n [.int .i64 0])))):=⟨_,rfl⟩
 rw [<- h3]
 have s3:σ.Same σ3:=by rw [h3];exact Mem.Same.put ((s01.trans s2).bump _) (by omega) _
 have n3:σ3.next=σ2.next+4:=by rw [h3];rfl
 have g3:σ3.get nb=some (.rw (rp v 0 n)):=by
  rw [h3,gS']
  unfold rp
  rw [z8M]
  have:arr (λ_=>0) n=List.replicate n 0:=by
   unfold arr
   rw [List.map_const',List.length_range]
  rw [this,Nat.sub_zero];rfl
 clear h3
 have g3b:σ3.get b=some (.rw [.int .i64 v]):=(s3.get b hb).trans hg
 have hmin:Nat.min 1 n=1:=Nat.min_eq_left hn
 -- the first number
 have first:∀ K:Int->Mem->Prop,K 1 ((σ3.bump 4).put nb (some (.rw (rp v 1 n))))->cpW 1 (σ3.bump 4) (.slice nb 0 n (.ex n)) (.slice b 0 1 c) K:=by
  intro K hK
  show z4t ((σ3.bump 4).cells b 0 (Nat.min 1 n*1)) _
  rw [hmin]
  refine opt (v:=[.int .i64 v]) ?_ ?_
  · rw [Mem.cells_of (gB g3b)];rfl
  · refine ⟨λh=>absurd h (by decide),λ_=>?_⟩
    refine opt (gB g3) ⟨⟨by rw [zmT (by omega)];simp;omega,rfl⟩,?_⟩
    have:=zmm (v:=v) (s:=0) (m:=1) (n:=n) (by omega)
    rw [show (0:Nat)+1=1 from rfl] at this
    rw [show ([AV.int .i64 v]:List AV)=ic (List.replicate 1 v) from rfl,this]
    exact hK
 refine first _ ?_
 refine loop1 (λ(s:Nat) (y:Int) σ'=>y=s/\1<=s/\s<=n/\σ.Same σ'/\nb<σ'.next/\σ'.get nb=some (.rw (rp v s n))) (λs=>n-s) 1 ⟨rfl,Nat.le_refl _,hn,Mem.Same.put (s3.bump _) (by omega) _,by simp only [Mem.next_put,Mem.next_bump];omega,gS'⟩ ?_
 rintro s _ σ4 ⟨rfl,hs1,hs,s4,n4,g4⟩
 unfold z29
 rw [Int.toNat_natCast,hnb]
 refine To.go ?_
 refine ifD (λhlt=>?_) (λhge=>?_)
 · refine And.intro ⟨rfl,show (0:Int)<=((s:Nat):Int) by omega,show ((s:Nat):Int)<=((n:Nat):Int) by omega,show ((n:Nat):Int)<=((n:Nat):Int) by omega⟩ ?_
   refine And.intro ⟨rfl,Int.le_refl _,show (0:Int)<=((s:Nat):Int) by omega,show ((s:Nat):Int)<=((n:Nat):Int) by omega⟩ ?_
   show cpW 1 (σ4.bump 14) (.slice nb (0+((s:Nat):Int).toNat*1) (((n:Nat):Int).toNat-((s:Nat):Int).toNat) _) (.slice nb (0+(0:Int).toNat*1) (((s:Nat):Int).toNat-(0:Int).toNat) _) _
   rw [Int.toNat_natCast,Int.toNat_natCast,Int.toNat_zero,Nat.zero_mul,Nat.sub_zero,Nat.zero_add,Nat.mul_one,Nat.add_zero]
   show z4t ((σ4.bump 14).cells nb 0 (Nat.min s (n-s)*1)) _
   obtain ⟨m,hm⟩:∃ m,Nat.min s (n-s)=m:=⟨_,rfl⟩
   have hm1:m<=s/\m<=n-s/\1<=m:=by
    rw [<- hm]
    show min s (n-s)<=s/\min s (n-s)<=n-s/\1<=min s (n-s)
    omega
   rw [hm,Nat.mul_one]
   refine opt (v:=ic (List.replicate m v)) ?_ ?_
   · rw [Mem.cells_of (gB g4),if_pos (by rw [zmT hs];omega),List.drop_zero,znD hm1.1]
   · refine ⟨λh=>absurd h (by omega),λ_=>?_⟩
     refine opt (gB g4) ⟨⟨by rw [zmT hs,z0j,List.length_replicate];omega,z3s _⟩,?_⟩
     rw [zmm (by omega)]
     refine z6 (by omega) ?_
     exact again ⟨s+m,⟨by omega,by omega,by omega,Mem.Same.put (s4.bump _) (by omega) _,by simp only [Mem.next_put,Mem.next_bump];omega,gS'⟩,by omega⟩
 · obtain rfl:s=n:=by omega
   rw [zqj] at g4
   refine ⟨⟨nb,by rw [List.length_replicate],gB g4⟩,λb' hb'=>?_,s4.bump _⟩
   simp only [z3,List.mem_singleton] at hb'
   subst hb'
   simp only [Mem.next_bump]
   omega
end Go.Vit
end
section
/- Symbols of tokens are laid. -/
set_option maxRecDepth 20000
namespace Go.Vit
open Go.Proofs
theorem zjV (p:Nat×Nat):laP p 0 0=p:=by
 have:=zjc p.1 p.2 (n:=0) (by decide)
 exact this
theorem z3V {L:List Int} (hL:lens L) (p:Nat×Nat) (x:Int):(z5m L p x).2<=p.2+15/\p.2<=(z5m L p x).2:=by
 unfold z5m
 split
 · rename_i h
   rw [zg8]
   have:=h.2.1
   have h2:=hL.2 (L.getD x.toNat 0) (by rw [zA (by have:=h.1;omega)];exact List.getElem_mem _)
   omega
 · omega
theorem Grow.from {o o':List Nat} {σ σ1 σ':Mem} (h:Grow o o' σ1 σ') (s:σ.Same σ1):Grow o o' σ σ':=
 ⟨⟨Nat.le_trans s.next h.only.next,λb hb hn=>(h.only.get b (Nat.lt_of_lt_of_le hb s.next) hn).trans (s.get b hb)⟩,λb hb=>(h.new b hb).imp id λh=>Nat.le_trans s.next h,h.lt⟩
theorem Grow.away {o o':List Nat} {σ σ':Mem} {lo hi:Nat} (h:Grow o o' σ σ') (ho:∀ b∈o,b<lo\/hi<=b) (hhi:hi<=σ.next):∀ b∈o',b<lo\/hi<=b:=by
 intro b hb
 rcases h.new b hb with h | h
 · exact ho b h
 · exact .inr (by omega)
theorem Grow.keepT {o o':List Nat} {σ σ':Mem} {lo hi t:Nat} {L:List Int} (h:Grow o o' σ σ') (ho:∀ b∈o,b<lo\/hi<=b) (hhi:hi<=σ.next) (ht:zcK lo hi L σ t):zcK lo hi L σ' t:=
 ht.keep λb h1 h2=>h.only.get b (by omega) λhb=>by have:=ho b hb;omega
theorem Grow.keepR {o o':List Nat} {σ σ':Mem} {lo hi t:Nat} {L:List Int} (h:Grow o o' σ σ') (ho:∀ b∈o,b<lo\/hi<=b) (hhi:hi<=σ.next) (ht:zd0 lo hi L σ t):zd0 lo hi L σ' t:=
 ht.keep λb h1 h2=>h.only.get b (by omega) λhb=>by have:=ho b hb;omega
theorem zbX {lo hi t w cb n:Nat} {o:List Nat} {L:List Int} {p:Nat×Nat} {s v:Int} {σ:Mem} (hL:lens L) (ht:zcK lo hi L σ t) (hhi:hi<=σ.next) (ho:∀ b∈o,b<lo\/hi<=b) (h:WrP σ w o p.1 p.2) (hN:p.2<=2^38)
 (hc:σ.get cb=some (.rw [.ptr w 0])) (hco:cb ∉ o) (hcl:cb<σ.next) (hv : -9223372036854775808<=v/\v<=9223372036854775807) :
 z1 PG zV [.ptr t 0,part s v (n:Nat),.ptr cb 0] σ λ_ σ'=>∃ o',WrP σ' w o' (laP (z5m L p s) v (n:Nat)).1 (laP (z5m L p s) v (n:Nat)).2/\Grow o o' σ σ':=by
 refine z9p λlive=>?_
 unfold z5z
 have hol:=h.2.lt live
 refine zge rfl ?_
 refine To.go ?_
 obtain ⟨pb,hpb⟩:∃ pb,σ.next=pb:=⟨_,rfl⟩
 obtain ⟨σ1,h1⟩:∃ σ1,σ1=((σ.bump 1).put pb (some (.rw [.int .i64 s,.int .i64 v,.int .i64 (n:Nat)]))).bump 5:=⟨_,rfl⟩
 rw [hpb,show (part s v (n:Nat)).cells=[.int .i64 s,.int .i64 v,.int .i64 (n:Nat)] from rfl,<- h1]
 have s1:σ.Same σ1:=by rw [h1];repeat (with_reducible first | exact Mem.Same.refl _ | refine Mem.Same.bump ?_ _ | refine Mem.Same.put ?_ (by omega) _)
 have g1:σ1.get pb=some (.rw [.int .i64 s,.int .i64 v,.int .i64 (n:Nat)]):=by rw [h1];exact gB gS'
 have n1:σ1.next=σ.next+6:=by rw [h1];rfl
 clear h1
 have hpo:pb ∉ o:=λhb=>by have:=hol pb hb;omega
 refine ldrw (σ:=σ1) ((s1.get cb hcl).trans hc) rfl ?_
 refine To.go ?_
 refine ldrw (σ:=σ1) (K:=λa=>zq .i64 a _) g1 (v:=.int .i64 s) rfl ?_
 refine z0 (zfW (σ:=σ1) (p:=p) (o:=o) hL (ht.keep λb h1 h2=>s1.get b (by omega)) (by omega) ho (h.keep λb hb=>s1.get b (hol b hb)) (by omega)) ?_
 rintro _ σ2 ⟨rfl,o2,w2,gr2⟩
 refine To.go ?_
 obtain ⟨g2,g2'⟩:=gr2.apart (p:=[pb,cb]) (λb hb=>by
  simp only [List.mem_cons,List.not_mem_nil,or_false] at hb
  rcases hb with rfl | rfl
  · exact ⟨by omega,hpo⟩
  · exact ⟨by omega,hco⟩)
 refine ldrw (σ:=σ2.bump 6) (gB ((g2' cb (by simp)).trans ((s1.get cb hcl).trans hc))) rfl ?_
 refine To.go ?_
 refine ldrw (σ:=σ2.bump 6) (K:=λa=>zq .i64 a _) (gB ((g2' pb (by simp)).trans g1)) (v:=.int .i64 v) rfl ?_
 refine To.go ?_
 refine ldrw (σ:=σ2.bump 6) (K:=λa=>zq .i64 a _) (gB ((g2' pb (by simp)).trans g1)) (v:=.int .i64 (n:Nat)) rfl ?_
 have hb2:=z3V hL p s
 refine z0 (z0b (σ:=σ2.bump 6) (w2.keep λ_ _=>rfl) (by omega) hv.1 hv.2) ?_
 rintro _ σ3 ⟨rfl,o3,w3,gr3⟩
 exact ⟨o3,w3,(gr2.from s1).trans gr3.ob⟩
def z5R (L D:List Int) (p:Nat×Nat) (t:Tok):Nat×Nat:=
 if t.2.1=0 then z5m L p t.1 else
  laP (z5m D (laP (z5m L p (z0k t.2.1.toNat:Nat)) (t.2.1.toNat-zeC (z0k t.2.1.toNat):Nat) (zav (z0k t.2.1.toNat):Nat)) (z27 t.2.2.toNat:Nat)) (t.2.2.toNat-zez (z27 t.2.2.toNat):Nat) (zev (z27 t.2.2.toNat):Nat)
def z42 (L D:List Int) (p:Nat×Nat) (l:List Tok):Nat×Nat:=z5m L (l.foldl (z5R L D) p) 256
def okT (t:Tok):Prop:=(t.2.1=0/\0<=t.1/\t.1<=255)\/(3<=t.2.1/\t.2.1<=258/\1<=t.2.2/\t.2.2<=512)
theorem zjq {n:Nat} (h1:3<=n) (h2:n<=258):zav (z0k n)<=5:=ziK (by have:=zhE ⟨n,by omega⟩ h1;dsimp only at this;omega)
theorem zke {n:Nat} (h1:1<=n) (h2:n<=512):zev (z27 n)<=13:=ziH (by have:=zha ⟨n,by omega⟩ h1;dsimp only at this;omega)
theorem zla {L D:List Int} (hL:lens L) (hD:lens D) (p:Nat×Nat) {t:Tok} (ht:okT t):(z5R L D p t).2<=p.2+48:=by
 unfold z5R
 rcases ht with ⟨h,_⟩ | ⟨h1,h2,h3,h4⟩
 · rw [if_pos h];have:=z3V hL p t.1;omega
 · rw [if_neg (by omega)]
   obtain ⟨n,hn⟩:∃ n,t.2.1.toNat=n:=⟨_,rfl⟩
   obtain ⟨d,hd⟩:∃ d,t.2.2.toNat=d:=⟨_,rfl⟩
   rw [hn,hd]
   have b1:=zjq (n:=n) (by omega) (by omega)
   have b2:=zke (n:=d) (by omega) (by omega)
   rw [z1Z _ _ (by omega)]
   have e1:=z3V hD (laP (z5m L p (z0k n:Nat)) (n-zeC (z0k n):Nat) (zav (z0k n):Nat)) (z27 d:Nat)
   rw [z1Z _ _ (by omega)] at e1
   have e2:=z3V hL p (z0k n:Nat)
   omega
end Go.Vit
end
section
/- Symbols of tokens are laid, all of them. -/
set_option maxRecDepth 20000
namespace Go.Vit
open Go.Proofs
theorem z1Q.rdK {σ σ':Mem} {v:AV} {l:List Tok} (h:z1Q 3 σ v (tkl l) l.length) (hb:∀ b∈z3 v,σ'.get b=σ.get b) {i:Nat} (hi:i<l.length) {j:Int} (hj:j=(i:Nat)) {K:AV->Prop} (hk:K (.agg (zlh l[i]))):zz 3 v j λp=>z5x 3 σ' p K:=by
 subst hj
 obtain ⟨b,rfl,hg,_⟩:=h.sl (by omega)
 refine And.intro (show (0:Int)<=(i:Nat)/\((i:Nat):Int)<(l.length:Nat) by omega) ?_
 rw [Int.toNat_natCast,Nat.zero_add]
 exact zp9 ⟨_,(hb b (by simp [z3])).trans hg,rfl⟩ hi hk
theorem zd1 {L D:List Int} (hL:lens L) (hD:lens D):∀ {l:List Tok} (p:Nat×Nat),(∀ t∈l,okT t)->(l.foldl (z5R L D) p).2<=p.2+48*l.length
 | [],p,_=>by simp
 | t::l,p,h=>by
   have h1:=zla hL hD p (h t (by simp))
   have h2:=zd1 hL hD (l:=l) (z5R L D p t) λx hx=>h x (by simp [hx])
   rw [List.foldl_cons,List.length_cons];omega
theorem zlY {L D:List Int} {p:Nat×Nat} {l:List Tok} {i:Nat} (h:i<l.length):(l.take (i+1)).foldl (z5R L D) p=z5R L D ((l.take i).foldl (z5R L D) p) l[i]:=by
 rw [List.take_succ_eq_append_getElem h,List.foldl_append];rfl
theorem z8A {lo hi lo' hi' t t' w:Nat} {o:List Nat} {L D:List Int} {p:Nat×Nat} {a:AV} {l:List Tok} {σ:Mem} (hL:lens L) (hD:lens D) (ht:zcK lo hi L σ t) (hhi:hi<=σ.next) (ho:∀ b∈o,b<lo\/hi<=b)
 (ht':zcK lo' hi' D σ t') (hhi':hi'<=σ.next) (ho':∀ b∈o,b<lo'\/hi'<=b) (h:WrP σ w o p.1 p.2) (hN:p.2<=2^37)
 (ha:z1Q 3 σ a (tkl l) l.length) (hao:∀ b∈z3 a,b ∉ o) (hok:∀ t∈l,okT t) (hl:l.length<=2^20) :
 z1 PG z2U [.ptr w 0,a,.ptr t 0,.ptr t' 0] σ λ_ σ'=>∃ o',WrP σ' w o' (z42 L D p l).1 (z42 L D p l).2/\Grow o o' σ σ':=by
 refine zbz λlive=>?_
 unfold z7a
 have hol:=h.2.lt live
 have hla:=ha.lt live
 refine zg4 rfl ?_
 refine To.go ?_
 obtain ⟨cb,hcb⟩:∃ cb,σ.next=cb:=⟨_,rfl⟩
 obtain ⟨σb,hσb⟩:∃ σb,σb=((σ.bump 1).put cb (some (.rw [.ptr w 0]))).bump 5:=⟨_,rfl⟩
 rw [hcb,show (AV.ptr w 0).cells=[.ptr w 0] from rfl,<- hσb]
 have sb:σ.Same σb:=by rw [hσb];repeat (with_reducible first | exact Mem.Same.refl _ | refine Mem.Same.bump ?_ _ | refine Mem.Same.put ?_ (by omega) _)
 have nb:σb.next=σ.next+6:=by rw [hσb];rfl
 have gb:σb.get cb=some (.rw [.ptr w 0]):=by rw [hσb];exact gB gS'
 have hcl:cb<σb.next:=by omega
 have hco:cb ∉ o:=λhb=>by have:=hol cb hb;omega
 clear hσb
 have hb:=ha.keep (σ':=σb) λb hb=>sb.get b (hla b hb)
 have tb:=ht.keep (σ':=σb) λb h1 h2=>sb.get b (by omega)
 have tb':=ht'.keep (σ':=σb) λb h1 h2=>sb.get b (by omega)
 have wb:=h.keep (σ':=σb) λb hb=>sb.get b (hol b hb)
 have step:∀ {lo hi t:Nat} {L:List Int} {σ1:Mem} {o1:List Nat} {q:Nat×Nat} {s v:Int} {n:Nat} {K:AV->Mem->Prop},lens L->zcK lo hi L σb t->hi<=σb.next->(∀ b∈o,b<lo\/hi<=b)->Grow o o1 σb σ1->WrP σ1 w o1 q.1 q.2->q.2<=2^38->(-9223372036854775808<=v/\v<=9223372036854775807) ->
  (∀ r σ2 o2,Grow o o2 σb σ2->WrP σ2 w o2 (laP (z5m L q s) v (n:Nat)).1 (laP (z5m L q s) v (n:Nat)).2->Grow o1 o2 σ1 σ2->K r σ2)->z3m PG (.func zV [.ptr cb 0]) [.ptr t 0,part s v (n:Nat)] σ1 K:=by
  intro lo hi t L σ1 o1 q s v n K hL ht hhi ho g1 w1 hq hv hK
  have n1:=g1.only.next
  refine z8E (zbX (σ:=σ1) (o:=o1) (p:=q) (cb:=cb) hL (g1.keepT ho hhi ht) (by omega) (g1.away ho hhi) w1 hq ((g1.only.get cb hcl hco).trans gb) (λhb=>?_) (by omega) hv) ?_
  · rcases g1.new cb hb with h | h
    · exact hco h
    · omega
  · rintro r σ2 ⟨o2,w2,g2⟩
    exact hK r σ2 o2 (g1.trans g2) w2 g2
 refine hb.rdO.len ?_
 refine loop1 (λ(i:Nat) (y:Int) σ'=>y=i/\i<=l.length/\∃ o',WrP σ' w o' ((l.take i).foldl (z5R L D) p).1 ((l.take i).foldl (z5R L D) p).2/\Grow o o' σb σ') (λi=>l.length-i) 0 ⟨rfl,by omega,o,wb,Grow.refl λb hb=>by have:=hol b hb;omega⟩ ?_
 rintro i _ σ1 ⟨rfl,hi',o1,w1,g1⟩
 unfold z5h
 rw [hcb]
 have n1:=g1.only.next
 have hfold:=zd1 (l:=l.take i) hL hD p λt ht=>hok t (List.mem_of_mem_take ht)
 rw [List.length_take] at hfold
 obtain ⟨q,hq⟩:∃ q,(l.take i).foldl (z5R L D) p=q:=⟨_,rfl⟩
 rw [hq] at w1 hfold
 have hq2:q.2<=2^37+2^27:=by omega
 refine ifD (λhlt=>?_) (λhge=>?_)
 · have hil:i<l.length:=by omega
   have hfs:=zlY (L:=L) (D:=D) (p:=p) hil
   rw [hq] at hfs
   have hokt:=hok l[i] (List.getElem_mem hil)
   have hao1:∀ b∈z3 a,b<σb.next/\b ∉ o:=λb hb=>⟨by have:=hla b hb;omega,hao b hb⟩
   obtain ⟨Y,hY⟩:∃ Y,(l.take (i+1)).foldl (z5R L D) p=Y:=⟨_,rfl⟩
   rw [hY] at hfs
   refine join0 (λσ'=>∃ o',WrP σ' w o' Y.1 Y.2/\Grow o o' σb σ') ?_ ?_
   · refine hb.rdK (σ':=σ1.bump 5) (λb hb=>g1.only.get b (hao1 b hb).1 (hao1 b hb).2) hil rfl ?_
     obtain ⟨⟨tb0,tl,td⟩,htk⟩:∃ t:Tok,l[i]=t:=⟨_,rfl⟩
     rw [htk] at hfs hokt ⊢
     refine To.go ?_
     refine stn gS' (by simp) rfl rfl ?_
     obtain ⟨kb,hkb⟩:∃ kb,σ1.next+3=kb:=⟨_,rfl⟩
     obtain ⟨σ2,h2⟩:∃ σ2,σ2=((σ1.bump 5).put kb (some (.rw [.int .i64 0,.int .i64 0,.int .i64 0]))).put kb (some (.rw (setAt [.int .i64 0,.int .i64 0,.int .i64 0] 0 (zlh (tb0,tl,td))))):=⟨_,rfl⟩
     rw [hkb,<- h2]
     have s2:σ1.Same σ2:=by rw [h2];repeat (with_reducible first | exact Mem.Same.refl _ | refine Mem.Same.bump ?_ _ | refine Mem.Same.put ?_ (by omega) _)
     have n2:σ2.next=σ1.next+5:=by rw [h2];rfl
     have g2:σ2.get kb=some (.rw [.int .i64 tb0,.int .i64 tl,.int .i64 td]):=by rw [h2,gS'];rfl
     clear h2
     have lt1:=g1.lt
     have w2:=w1.keep (σ':=σ2) λb hb=>s2.get b (lt1 b hb)
     have gr2:Grow o o1 σb σ2:=g1.then s2
     have hko:kb ∉ o1:=λhb=>by have:=lt1 kb hb;omega
     unfold z5R at hfs
     dsimp only at hfs
     refine To.go ?_
     refine ldrw (σ:=σ2.bump 3) (K:=λa=>zq .i64 a _) g2 (v:=.int .i64 tl) rfl ?_
     refine ifD (λh0=>?_) (λh0=>?_)
     · refine To.go ?_
       refine ldrw (σ:=σ2.bump 9) (K:=λa=>zq .i64 a _) g2 (v:=.int .i64 tb0) rfl ?_
       rw [if_pos h0] at hfs
       refine step (s:=tb0) (v:=0) (n:=0) (q:=q) hL tb (by omega) ho (gr2.bump 9) (w2.keep λ_ _=>rfl) (by omega) (by omega) ?_
       intro r σ3 o3 g3 w3 _
       rw [show ((0:Nat):Int)=0 from rfl,zjV] at w3
       rw [hfs]
       exact ⟨o3,w3,g3⟩
     · rw [if_neg h0] at hfs
       have hok2:3<=tl/\tl<=258/\1<=td/\td<=512:=by
        rcases hokt with h | h
        · exact absurd h.1 h0
        · exact h
       obtain ⟨n,rfl⟩:∃ n:Nat,tl=n:=⟨tl.toNat,by omega⟩
       obtain ⟨d,rfl⟩:∃ d:Nat,td=d:=⟨td.toNat,by omega⟩
       rw [Int.toNat_natCast,Int.toNat_natCast] at hfs
       have hlb:=zjq (n:=n) (by omega) (by omega)
       have hdb:=zke (n:=d) (by omega) (by omega)
       refine To.go ?_
       refine ldrw (σ:=σ2.bump 9) (K:=λa=>zq .i64 a _) g2 (v:=.int .i64 (n:Nat)) rfl ?_
       refine z0 (z9P (by omega) (by omega) _) ?_
       rintro _ σ3 ⟨rfl,s3⟩
       replace s3:=s3.ob
       refine step (s:=(z0k n:Nat)) (v:=(n-zeC (z0k n):Nat)) (n:=zav (z0k n)) (q:=q) hL tb (by omega) ho (gr2.then s3) (w2.keep λb hb=>s3.get b (by have:=lt1 b hb;omega)) (by omega) (by omega) ?_
       intro r σ4 o4 g4 w4 gr4
       obtain ⟨_,ap⟩:=gr4.apart (p:=[kb]) (λb hb=>by
        rw [List.mem_singleton] at hb
        subst hb
        have:=s3.next
        exact ⟨by omega,hko⟩)
       refine To.go ?_
       refine ldrw (σ:=σ4.bump 6) (K:=λa=>zq .i64 a _) (gB ((ap kb (by simp)).trans ((s3.get kb (by omega)).trans g2))) (v:=.int .i64 (d:Nat)) rfl ?_
       refine z0 (z85 (by omega) (by omega) _) ?_
       rintro _ σ5 ⟨rfl,s5⟩
       replace s5:=s5.ob
       have e1:=z3V hL q (z0k n:Nat)
       refine step (s:=(z27 d:Nat)) (v:=(d-zez (z27 d):Nat)) (n:=zev (z27 d)) (q:=laP (z5m L q (z0k n:Nat)) (n-zeC (z0k n):Nat) (zav (z0k n):Nat)) hD tb' (by omega) ho' (g4.then s5) (w4.keep λb hb=>s5.get b (g4.lt b hb)) (by rw [z1Z _ _ (by omega)];omega) (by omega) ?_
       intro r σ6 o6 g6 w6 _
       rw [hfs]
       exact ⟨o6,w6,g6⟩
   · rintro σ2 ⟨o2,w2,g2⟩
     unfold z5o
     refine z6 (by omega) ?_
     exact again ⟨i+1,⟨by omega,by omega,o2,by rw [hY];exact w2.keep λ_ _=>rfl,g2.bump _⟩,by omega⟩
 · obtain rfl:i=l.length:=by omega
   rw [List.take_length] at hq
   refine step (s:=256) (v:=0) (n:=0) (q:=q) hL tb (by omega) ho (g1.bump 5) (w1.keep λ_ _=>rfl) (by omega) (by omega) ?_
   intro r σ3 o3 g3 w3 _
   rw [show ((0:Nat):Int)=0 from rfl,zjV] at w3
   unfold z42
   rw [hq]
   exact ⟨o3,w3,g3.from sb⟩
end Go.Vit
end
section
/- Symbols of tokens are laid, as the document does. -/
set_option maxRecDepth 20000
namespace Go.Vit
open Go.Proofs
end Go.Vit
end
section
/- Fixed blocks. -/
set_option maxRecDepth 20000
namespace Go.Vit
open Go.Proofs
theorem zjI:[List.replicate 144 (8:Int),List.replicate 112 9,List.replicate 24 7,List.replicate 8 8].flatten=ziU:=by decide +kernel
theorem znM:List.replicate 32 (5:Int)=zkT:=by decide +kernel
theorem zkj:chk ziU=0:=by decide +kernel
theorem zjG:chk zkT=0:=by decide +kernel
theorem zeg:lens ziU:=(z2p zkj).1
theorem zhk:lens zkT:=(z2p zjG).1
def zcn (l:List Tok):Nat×Nat:=z42 ziU zkT (laP (0,0) 3 3) l
theorem zfT {s:ByteArray} {k:Nat} (h:Done s k):∀ t∈toks s k,okT t:=by
 intro t ht
 unfold toks at ht
 rw [List.mem_map] at ht
 obtain ⟨j,hj,rfl⟩:=ht
 rw [List.mem_range] at hj
 have hr:=znI (s:=s) (i:=pos s j) (h.2 j hj)
 obtain ⟨t,hte⟩:∃ t,zoN s j=t:=⟨_,rfl⟩
 have e:(tk s (pos s j)).1=t:=hte
 rw [e] at hr
 rw [hte]
 have h1:=hr.1
 unfold right at h1
 unfold okT
 by_cases h0:t.2.1=0
 · rw [if_pos h0] at h1
   exact .inl ⟨h0,h1.2.1,h1.2.2⟩
 · rw [if_neg h0] at h1
   exact .inr ⟨h1.2.1,h1.2.2.1,h1.2.2.2.1,hr.2.1⟩
theorem zb5 {σ0 σ1:Mem} {nb n:Nat} {v:Int} {K:AV->Mem->Prop} (hs:σ0.next<=nb) (hb:nb<σ1.next) (hn:1<=n) (hn2:n<=2^20)
 (hK:∀ w σ2,RdX σ2 w (List.replicate n v)->(∀ b∈z3 w,σ1.next<=b/\b<σ2.next)->σ1.next<=σ2.next->(∀ b,b<σ1.next->b≠nb->σ2.get b=σ1.get b)->K w σ2) :
 z15 σ1 nb (.rw [.int .i64 v]) λσ'=>z5 PG zo [.slice nb 0 1 (.ex 1),.int .i64 (n:Nat)] σ' K:=by
 refine To.go ?_
 refine z0 (zfR (σ:=σ1.put nb (some (.rw [.int .i64 v]))) (v:=v) gS' (by rw [Mem.next_put];exact hb) hn hn2) ?_
 rintro w σ2 ⟨h1,h2,h3⟩
 refine hK w σ2 h1 h2 h3.next λb h4 h5=>?_
 rw [h3.get b (by rw [Mem.next_put];exact h4),Mem.get_put_ne _ h5]
theorem zgm {s:ByteArray} (hs:s.size<=20000) {σ:Mem} :
 z1 PG z5Q [.str s] σ λv σ'=>(∃ k,Done s k/\v=.str (text (zcn (toks s k)).1 (zcn (toks s k)).2))/\σ.Same σ':=by
 refine zcM λlive=>?_
 unfold z8t
 refine zb5 (σ0:=σ) (n:=144) (by omega) (by simp only [Mem.next_bump];omega) (by decide) (by decide) λv1 σ1 r1 b1 n1 f1=>?_
 simp only [Mem.next_bump] at b1 n1 f1
 refine zb5 (σ0:=σ) (n:=112) (by omega) (by omega) (by decide) (by decide) λv2 σ2 r2 b2 n2 f2=>?_
 refine zb5 (σ0:=σ) (n:=24) (by omega) (by omega) (by decide) (by decide) λv3 σ3 r3 b3 n3 f3=>?_
 refine zb5 (σ0:=σ) (n:=8) (by omega) (by omega) (by decide) (by decide) λv4 σ4 r4 b4 n4 f4=>?_
 have k2:∀ b,σ.next+12<=b->b<σ1.next->σ2.get b=σ1.get b:=λb h h'=>f2 b h' (by omega)
 have k3:∀ b,σ.next+12<=b->b<σ2.next->σ3.get b=σ2.get b:=λb h h'=>f3 b h' (by omega)
 have k4:∀ b,σ.next+12<=b->b<σ3.next->σ4.get b=σ3.get b:=λb h h'=>f4 b h' (by omega)
 have r1:=r1.keep (σ':=σ4) λb hb=>by have:=b1 b hb;rw [k4 b (by omega) (by omega),k3 b (by omega) (by omega),k2 b (by omega) (by omega)]
 have r2:=r2.keep (σ':=σ4) λb hb=>by have:=b2 b hb;rw [k4 b (by omega) (by omega),k3 b (by omega) (by omega)]
 have r3:=r3.keep (σ':=σ4) λb hb=>by have:=b3 b hb;rw [k4 b (by omega) (by omega)]
 have s4:σ.Same σ4:=⟨by omega,λb hb=>by rw [f4 b (by omega) (by omega),f3 b (by omega) (by omega),f2 b (by omega) (by omega),f1 b (by omega) (by omega)];rfl⟩
 refine z1Y r1.c.one ?_
 refine z1Y r2.c.one ?_
 refine z1Y r3.c.one ?_
 refine z1Y r4.c.one ?_
 rw [z3t r1.c.one,z3t r2.c.one,z3t r3.c.one,z3t r4.c.one]
 refine To.go ?_
 obtain ⟨σ5,h5⟩:∃ σ5,σ5=σ4.put (σ.next+9) (some (.rw [v1,v2,v3,v4])):=⟨_,rfl⟩
 rw [show setAt (setAt (setAt (setAt [AV.nils,.nils,.nils,.nils] 0 [v1]) 1 [v2]) 2 [v3]) 3 [v4]=[v1,v2,v3,v4] from rfl,<- h5]
 have s5:σ.Same σ5:=by rw [h5];exact s4.put (by omega) _
 have n5:σ5.next=σ4.next:=by rw [h5];rfl
 have g5:σ5.get (σ.next+9)=some (.rw [v1,v2,v3,v4]):=by rw [h5,gS']
 have k5:∀ b,σ.next+12<=b->σ5.get b=σ4.get b:=λb h=>by rw [h5,Mem.get_put_ne _ (by omega)]
 clear h5
 refine z0 (zb3 (σ:=σ5) (k:=4) (Ls:=[List.replicate 144 8,List.replicate 112 9,List.replicate 24 7,List.replicate 8 8]) g5 rfl rfl (by omega) (by decide) (λi v M h1 h2=>?_) (by rw [zjI,zcV];decide)) ?_
 · match i,h1,h2 with
   | 0,h1,h2=>injection h1 with h1;injection h2 with h2;subst h1 h2;exact ⟨(r1.keep λb hb=>k5 b (by have:=b1 b hb;omega)).c.o,λb hb=>by have:=b1 b hb;omega⟩
   | 1,h1,h2=>injection h1 with h1;injection h2 with h2;subst h1 h2;exact ⟨(r2.keep λb hb=>k5 b (by have:=b2 b hb;omega)).c.o,λb hb=>by have:=b2 b hb;omega⟩
   | 2,h1,h2=>injection h1 with h1;injection h2 with h2;subst h1 h2;exact ⟨(r3.keep λb hb=>k5 b (by have:=b3 b hb;omega)).c.o,λb hb=>by have:=b3 b hb;omega⟩
   | 3,h1,h2=>injection h1 with h1;injection h2 with h2;subst h1 h2;exact ⟨(r4.keep λb hb=>k5 b (by have:=b4 b hb;omega)).c.o,λb hb=>by have:=b4 b hb;omega⟩
   | i+4,h1,h2=>simp at h1
 rintro w5 σ6 ⟨g6,s6⟩
 rw [zjI] at g6
 have s06:=s5.trans s6
 refine z0 (z4P (σ:=σ6.bump 7) (L:=ziU) (g6.o.keep λ_ _=>rfl) (by rw [zcV];decide)) ?_
 rintro _ σ7 ⟨p,rfl,_,hp,s7⟩
 obtain ⟨_,t,rfl,tab⟩:=hp zkj
 have tab:=tab.b
 have s07:=s06.trans s7.ob
 have n7:=s7.next
 simp only [Mem.next_bump] at n7
 refine z43 rfl ?_
 refine z3v rfl ?_
 refine zb5 (σ0:=σ7) (n:=32) (Nat.le_refl _) (by simp only [Mem.next_bump];omega) (by decide) (by decide) λv8 σ8 r8 b8 n8 f8=>?_
 simp only [Mem.next_bump] at b8 n8 f8
 have s8:σ7.Same σ8:=⟨by omega,λb hb=>f8 b (by omega) (by omega)⟩
 rw [znM] at r8
 refine z0 (z4P (σ:=σ8) (L:=zkT) r8.c.o (by rw [zgz];decide)) ?_
 rintro _ σ9 ⟨p,rfl,_,hp,s9⟩
 obtain ⟨_,t',rfl,tab'⟩:=hp zjG
 have tab':=tab'.b
 have s09:=(s07.trans s8).trans s9
 have s79:=s8.trans s9
 refine z43 rfl ?_
 refine z3v rfl ?_
 refine z0 (zfH _) ?_
 rintro _ σ10 ⟨w,rfl,hw1,hw2,hwr,s10⟩
 replace s10:=s10.ob
 have n10:=s10.next
 have lone:Lone σ9 (σ10.bump 2) w (0,0):=⟨[w],hwr.keep λ_ _=>rfl,λb hb=>by simp only [List.mem_singleton] at hb;subst hb;simp only [Mem.next_bump] at hw1 ⊢;omega,s10.bump _⟩
 obtain ⟨o,hwo,_,st⟩:=lone.step
 refine z0 (z0b hwo (by decide) (by decide) (by decide)) ?_
 rintro _ σ11 ⟨rfl,h11⟩
 have lone:=st _ (laP (0,0) 3 3) h11
 refine z0 (zh5 s hs (σ11.bump 6)) ?_
 rintro a σ12 ⟨k,hk,own12,s12⟩
 have lone12:=lone.same s12.ob
 have hle:=zk8 hk
 obtain ⟨o12,hw12,hb12,s912⟩:=lone12
 have n912:=s912.next
 have n79:=s79.next
 have n9:=s9.next
 obtain ⟨o11,hw11,hb11,_⟩:=lone
 have tl:(toks s k).length=k:=zjY s k
 have own12':=own12.1
 rw [show tks s k=tkl (toks s k) from rfl,show z1Q 3 σ12 a (tkl (toks s k)) k↔z1Q 3 σ12 a (tkl (toks s k)) (toks s k).length from by rw [tl]] at own12'
 refine z0 (z8A (σ:=σ12) (o:=o11) (p:=laP (0,0) 3 3) (lo:=σ6.next+7) (hi:=σ7.next) (lo':=σ8.next) (hi':=σ9.next) zeg zhk (tab.keep λb h1 h2=>by rw [s912.get b (by omega),s79.get b (by omega)]) (by omega) (λb hb=>.inr (by have:=hb11 b hb;omega)) (tab'.keep λb h1 h2=>s912.get b h2) (by omega) (λb hb=>.inr (by have:=hb11 b hb;omega)) (hw11.keep λb hb=>s12.ob.get b (hb11 b hb).2) (by decide) own12' (λb hb h=>by have:=(own12.2 b hb).1;have:=(hb11 b h).2;simp only [Mem.next_bump] at *;omega) (zfT hk) (by rw [tl];omega)) ?_
 rintro _ σ13 ⟨o13,w13,g13⟩
 have hfb:=zd1 zeg zhk (l:=toks s k) (laP (0,0) 3 3) (zfT hk)
 have hfe:=z3V zeg ((toks s k).foldl (z5R ziU zkT) (laP (0,0) 3 3)) 256
 rw [tl,show (laP (0,0) 3 3).2=3 from rfl] at hfb
 refine z0 (z55 (σ:=σ13.bump 3) (w13.keep λ_ _=>rfl) (by unfold z42;omega)) ?_
 rintro _ σ14 ⟨rfl,s14⟩
 have sA:σ9.Same σ13:=(g13.same s912 λb hb=>(hb11 b hb).1).1
 exact ⟨⟨k,hk,rfl⟩,(s09.trans sA).trans s14.ob⟩
end Go.Vit
end
section
/- Fixed blocks, as the document tells them. -/
set_option maxRecDepth 20000
namespace Go.Vit
open Go.Proofs
end Go.Vit
end
