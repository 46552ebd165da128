/- Codes and tables (as in the second seat) -/
import Derived.Test.YtloeboiajgfigaaGreatV7B
import Derived.Test.YtloeboiajgfigaaGreatVm3
set_option linter.unusedVariables false
set_option linter.unusedSimpArgs false
set_option maxRecDepth 20000
namespace Go.Vit
open Go.Proofs
section
theorem zgL {x:Int} (σ:Mem):z1 PG z6H [.int .i64 x] σ λv σ'=>v=.bool (decide (¬ (0<=x/\x<=15)))/\σ.Same σ':=by
 refine zdc λ_=>?_
 unfold z9z
 refine ifD (λh=>?_) (λh=>?_)
 · exact ⟨by rw [decide_eq_true (by omega)],(Mem.Same.refl σ).bump _⟩
 · refine ⟨?_,(Mem.Same.refl σ).bump _⟩
   congr 1;rw [decide_eq_decide];omega
theorem zcO {a:AV} {L:List Int} {f:AV} {p:Int->Bool} {σ:Mem} (ha:RdO 1 σ a (ic L) L.length) (hl:L.length<=2^60)
 (hf:∀ σ' x,x∈L->σ.Same σ'->∀ n K,(∀ σ'',σ'.Same σ''->K (.bool (p x)) σ'')->z3m PG f [.int .i64 x] (σ'.bump n) K) :
 z1 PG z0M [a,f] σ λv σ'=>(∃ n:Int,v=.int .i64 n/\(0<=n↔∃ x∈L,p x=true))/\σ.Same σ':=by
 refine z4Y λlive=>?_
 unfold z2a
 have hla:=ha.lt live
 refine ha.len ?_
 refine loop1 (λ(i:Nat) (x:Int) σ'=>x=i/\i<=L.length/\(∀ x∈L.take i,p x=false)/\σ.Same σ') (λi=>L.length-i) 0 ⟨rfl,by omega,by simp,(Mem.Same.refl σ).bump _⟩ ?_
 rintro i _ σ1 ⟨rfl,hi,hp,s1⟩
 unfold z1G
 refine ifD (λhlt=>?_) (λhge=>?_)
 · have hil:i<L.length:=by omega
   obtain ⟨b,bz,c,rfl,hget⟩:=(ha.keep λb hb=>s1.get b (hla b hb)).at hil
   repeat (first | refine To.go ?_ | with_reducible refine And.intro (by omega) ?_)
   refine hget _ ?_
   have hmem:=List.getElem_mem hil
   have htake:=List.take_succ_eq_append_getElem hil
   obtain ⟨x,hx⟩:∃ x,L[i]=x:=⟨_,rfl⟩
   rw [hx] at hmem htake ⊢
   repeat (refine To.go ?_)
   refine hf σ1 x hmem s1 _ _ λσ2 s2=>?_
   repeat (refine To.go ?_)
   refine ifI (λh=>?_) (λh=>?_)
   · exact ⟨⟨i,rfl,⟨λ_=>⟨x,hmem,h⟩,λ_=>by omega⟩⟩,(s1.trans s2).bump _⟩
   · repeat (first | refine To.go ?_ | with_reducible refine And.intro (by omega) ?_)
     refine again ⟨i+1,⟨by omega,by omega,λy hy=>?_,(s1.trans s2).bump _⟩,by omega⟩
     rw [htake,List.mem_append] at hy
     rcases hy with hy | hy
     · exact hp y hy
     · simp at hy;rw [hy];exact h
 · obtain rfl:i=L.length:=by omega
   rw [List.take_length] at hp
   exact ⟨⟨-1,rfl,⟨λh=>absurd h (by decide),λ⟨x,h1,h2⟩=>by rw [hp x h1] at h2;exact absurd h2 (by decide)⟩⟩,s1.bump _⟩
theorem z6f {a:AV} {L:List Int} {f:AV} {p:Int->Bool} {σ:Mem} (ha:RdO 1 σ a (ic L) L.length) (hl:L.length<=2^60)
 (hf:∀ σ' x,x∈L->σ.Same σ'->∀ n K,(∀ σ'',σ'.Same σ''->K (.bool (p x)) σ'')->z3m PG f [.int .i64 x] (σ'.bump n) K) :
 z1 PG zy [a,f] σ λv σ'=>v=.bool (decide (∃ x∈L,p x=true))/\σ.Same σ':=by
 refine z3Y λlive=>?_
 unfold z1t
 refine z0 (zcO (σ:=σ.bump 6) (p:=p) (ha.keep λ_ _=>rfl) hl λσ' x hx s=>hf σ' x hx s.ob) ?_
 rintro _ σ1 ⟨⟨n,rfl,hn⟩,s1⟩
 repeat (refine To.go ?_)
 refine ⟨?_,s1.ob⟩
 congr 1;rw [decide_eq_decide];exact hn
theorem znP {a:AV} {L:List Int} {σ:Mem} (ha:RdO 1 σ a (ic L) L.length) (hl:L.length<=2^60) :
 z1 PG zy [a,.func z6H []] σ λv σ'=>v=.bool (decide (∃ x∈L,¬ (0<=x/\x<=15)))/\σ.Same σ':=by
 refine (z6f (p:=λx=>decide (¬ (0<=x/\x<=15))) ha hl λσ' x _ _ n K hk=>?_).mono ?_
 · refine z8E (l':=[]) (zgL _) ?_
   rintro _ σ1 ⟨rfl,s⟩
   exact hk _ s.ob
 · rintro _ σ1 ⟨rfl,s⟩
   refine ⟨?_,s⟩
   congr 1;rw [decide_eq_decide]
   simp only [decide_eq_true_eq]
def cA (L:List Int):List AV:=ic (arr (λn=>(cN L n:Nat)) 16)
theorem z5N (L:List Int):(cA L).length=16:=by unfold cA;rw [z0j,zW]
theorem z8H {a:AV} {L:List Int} {σ:Mem} (ha:RdO 1 σ a (ic L) L.length) (hL:lens L) :
 z1 PG z3n [a] σ λv σ'=>v=.agg (cA L)/\σ.Same σ':=by
 refine ze9 λlive=>?_
 unfold z9A
 have hla:=ha.lt live
 repeat (refine To.go ?_)
 refine ha.len ?_
 simp only [Mem.next_bump,Mem.next_put]
 refine loop1 (λ(i:Nat) (x:Int) σ'=>x=i/\i<=L.length/\σ.Same σ'/\σ.next+1<σ'.next/\(∃ l,σ'.get σ.next=some (.rw l)/\l.length=16)/\σ'.get (σ.next+1)=some (.rw (cA (L.take i)))) (λi=>L.length-i) 0 ⟨rfl,by omega,?_,?_,⟨List.replicate 16 (.int .i64 0),?_,rfl⟩,?_⟩ ?_
 · repeat (with_reducible first | exact Mem.Same.refl _ | refine Mem.Same.bump ?_ _ | refine Mem.Same.put ?_ (by omega) _)
 · simp only [Mem.next_bump,Mem.next_put];omega
 · rw [Mem.get_bump,Mem.get_put_ne _ (by omega),Mem.get_bump,gS']
 · rw [Mem.get_bump,gS',zfZ]
   unfold cA;rw [z0e (g:=λn=>((cN (L.take 0) n:Nat):Int)) λj _=>by simp [cN]]
 rintro i _ σ1 ⟨rfl,hi,s1,hn1,⟨l,hl1,hl2⟩,e1⟩
 unfold z71
 simp only [Mem.next_bump,Mem.next_put]
 refine ifD (λhlt=>?_) (λhge=>?_)
 · have hil:i<L.length:=by omega
   obtain ⟨b,bz,c,rfl,hget⟩:=(ha.keep λb hb=>s1.get b (hla b hb)).at hil
   have hx:=hL.2 _ (List.getElem_mem hil)
   have hc:=z1P hil
   have hle:=z9l L i
   have hll:=zhA L
   have hL1:=hL.1
   repeat (first | refine To.go ?_ | with_reducible refine And.intro (by omega) ?_)
   refine hget _ ?_
   obtain ⟨x,hxe⟩:∃ x,L[i]=x:=⟨_,rfl⟩
   rw [hxe] at hx hc ⊢
   refine To.go ?_
   refine join0 (λσ'=>σ.Same σ'/\σ.next+1<σ'.next/\(∃ l,σ'.get σ.next=some (.rw l)/\l.length=16)/\σ'.get (σ.next+1)=some (.rw (cA (L.take (i+1))))) ?_ ?_
   · refine ifD (λh0=>?_) (λh0=>?_)
     · obtain ⟨m,rfl⟩:=z20 hx.1
       have hg:(cA (L.take i))[m]? = some (.int .i64 (cN (L.take i) m:Nat)):=zgh (by omega)
       have hm1:=hle m
       have hm2:=hll m
       refine To.go ?_
       refine And.intro (by omega) ?_
       rw [show 0+m*1=m from by omega]
       refine To.go ?_
       refine ldrw (l:=cA (L.take i)) e1 hg ?_
       refine To.go ?_
       refine To.go ?_
       refine And.intro (by omega) ?_
       refine To.go ?_
       refine And.intro (by omega) ?_
       rw [show 0+m*1=m from by omega]
       refine st1 e1 (by rw [z5N];omega) rfl ?_
       refine ⟨by repeat (with_reducible first | assumption | refine Mem.Same.bump ?_ _ | refine Mem.Same.put ?_ (by omega) _),by simp only [Mem.next_bump,Mem.next_put];omega,⟨l,?_,hl2⟩,?_⟩
       · rw [Mem.get_put_ne _ (by omega)];exact hl1
       · rw [gS']
         unfold cA
         rw [zaB,za0,z0e λj hj=>?_]
         rw [hc j]
         by_cases hjm:j=m
         · subst hjm;rw [if_pos rfl,if_pos ⟨h0,rfl⟩];omega
         · rw [if_neg hjm,if_neg λe=>hjm (by omega)];omega
     · refine ⟨s1.bump _,by simp only [Mem.next_bump];omega,⟨l,hl1,hl2⟩,?_⟩
       rw [Mem.get_bump,e1]
       unfold cA
       rw [z0e λj _=>?_]
       rw [hc j,if_neg λe=>h0 e.1];omega
   · rintro σ2 ⟨s2,hn2,h2,e2⟩
     unfold z6X
     repeat (first | refine To.go ?_ | with_reducible refine And.intro (by omega) ?_)
     exact again ⟨i+1,⟨by omega,by omega,s2.bump _,by simp only [Mem.next_bump];omega,h2,e2⟩,by omega⟩
 · obtain rfl:i=L.length:=by omega
   rw [List.take_length] at e1
   refine ldnq e1 rfl (by rw [z5N];omega) ?_
   rw [List.drop_zero,<- z5N L,List.take_length]
   refine stn hl1 (by rw [hl2,z5N];omega) rfl (z3s _) ?_
   refine ldnq gS' rfl (by rw [z8y,hl2,z5N];omega) ?_
   refine ⟨?_,by repeat (with_reducible first | assumption | refine Mem.Same.bump ?_ _ | refine Mem.Same.put ?_ (by omega) _)⟩
   rw [z6d (by rw [hl2,z5N]),List.drop_zero,List.take_length]
theorem zoe {L:List Int} {k:Nat} (h:k<16):(cA L)[k]? = some (.int .i64 (cN L k:Nat)):=zgh h
theorem zbW {L:List Int} (h:¬ lens L):chk L=1:=if_pos h
theorem zkd {L:List Int} (h:lens L):chk L=if 32768<room L then 10 else if room L<32768/\0<many L/\¬ (many L=1/\cN L 1≠0) then 11 else 0:=if_neg (not_not_intro h)
theorem zkA {a:AV} {L:List Int} {σ:Mem} (ha:RdO 1 σ a (ic L) L.length) (hl:L.length<=2^60) :
 z1 PG z8i [a] σ λv σ'=>v=.int .i64 (chk L)/\σ.Same σ':=by
 refine zfs λlive=>?_
 unfold zcz
 have hla:=ha.lt live
 refine ha.len ?_
 refine ifD (λh=>?_) (λh288=>?_)
 · exact ⟨by rw [zbW λh'=>by have:=h'.1;omega],(Mem.Same.refl σ).bump _⟩
 refine z0 (znP (σ:=σ.bump 8) (ha.keep λ_ _=>rfl) hl) ?_
 rintro _ σ1 ⟨rfl,s1⟩
 replace s1:=s1.ob
 by_cases hbad:∃ x∈L,¬ (0<=x/\x<=15)
 · rw [decide_eq_true hbad]
   repeat (refine To.go ?_)
   refine ⟨?_,s1.bump _⟩
   rw [zbW λh'=>?_]
   obtain ⟨x,h1,h2⟩:=hbad
   exact h2 (h'.2 x h1)
 rw [decide_eq_false hbad]
 have hL:lens L:=⟨by omega,λx hx=>by
  rcases Classical.em (0<=x/\x<=15) with h | h
  · exact h
  · exact absurd ⟨x,hx,h⟩ hbad⟩
 repeat (refine To.go ?_)
 have ha1:=ha.keep λb hb=>s1.get b (hla b hb)
 refine z0 (z8H (σ:=σ1.bump 4) (ha1.keep λ_ _=>rfl) hL) ?_
 rintro _ σ2 ⟨rfl,s2⟩
 have s2':=s2.next
 simp only [Mem.next_bump] at s2'
 replace s2:=s2.ob
 refine To.go ?_
 refine stn gS' (by simp) (z5N L) (z3s _) ?_
 obtain ⟨b,hb⟩:∃ b,σ1.next+2=b:=⟨_,rfl⟩
 rw [z6d (by rw [z5N];rfl),hb]
 refine ldnq gS' rfl (by rw [z5N];omega) ?_
 rw [List.drop_zero,<- z5N L,List.take_length]
 obtain ⟨hm,hw⟩:=sums hL.2
 have hr:=zmz L
 have hml:=zdS L
 have hL1:=hL.1
 have s02:=s1.trans s2
 refine loop3 (λ(k:Nat) (s m x:Int) σ'=>x=k/\k<=16/\s=(wsum (cN L) k:Nat)/\m=(msum (cN L) k:Nat)/\σ.Same σ'/\σ'.get b=some (.rw (cA L))) (λk=>16-k) 0 ⟨rfl,by omega,rfl,rfl,?_,?_⟩ ?_
 · have:=s1.next
   repeat (with_reducible first | assumption | refine Mem.Same.bump ?_ _ | refine Mem.Same.put ?_ (by omega) _)
 · rw [Mem.get_bump,gS']
 rintro k _ _ _ σ3 ⟨rfl,hk,rfl,rfl,s3,e3⟩
 unfold z8v
 rw [hb]
 have hws:=zgx (c:=cN L) hk
 have hms:=zaj (c:=cN L) hk
 refine ifD (λhlt=>?_) (λhge=>?_)
 · have hk':k<16:=by omega
   have hws1:=zgx (c:=cN L) (show k+1<=16 by omega)
   have hms1:=zaj (c:=cN L) (show k+1<=16 by omega)
   have hstep:wsum (cN L) (k+1)=wsum (cN L) k+cN L k*2^(15-k):=rfl
   have hstepm:msum (cN L) (k+1)=msum (cN L) k+cN L k:=rfl
   have hcl:=zhA L k
   refine To.go ?_
   refine And.intro (by omega) ?_
   refine opt (v:=.int .i64 (cN L k:Nat)) ?_ ?_
   · show (cA L)[(k:Int).toNat*1]? = _
     rw [Int.toNat_natCast,Nat.mul_one];exact zoe hk'
   rw [hw] at hws hws1
   rw [hm] at hms hms1
   rw [hstep] at hws1
   obtain ⟨y,hy⟩:∃ y,cN L k*2^(15-k)=y:=⟨_,rfl⟩
   rw [hy] at hws1 hstep
   repeat (first | refine To.go ?_ | with_reducible refine And.intro (by omega) ?_)
   rw [show ((15:Int)-k).toNat=15-k from by omega,show ((cN L k:Nat):Int)*2^(15-k)=(y:Nat) from by rw [<- hy];simp]
   repeat (first | refine To.go ?_ | with_reducible refine And.intro (by omega) ?_)
   exact again ⟨k+1,⟨by omega,by omega,by rw [hstep];omega,by rw [hstepm];omega,s3.bump _,e3⟩,by omega⟩
 · obtain rfl:k=16:=by omega
   rw [hw,hm]
   have hn1:=zoe (L:=L) (k:=1) (by decide)
   have hC:=zkd hL
   obtain ⟨R,hR⟩:∃ R,room L=R:=⟨_,rfl⟩
   obtain ⟨M,hM⟩:∃ M,many L=M:=⟨_,rfl⟩
   obtain ⟨C,hCe⟩:∃ C,chk L=C:=⟨_,rfl⟩
   rw [hR,hM,hCe] at hC
   rw [hR,hM,hCe]
   refine ifD (λh1=>?_) (λh1=>?_)
   · exact ⟨by rw [hC,if_pos (by omega)],s3.bump _⟩
   rw [if_neg (by omega)] at hC
   with_reducible refine ifD (λh2=>?_) (λh2=>?_)
   · refine ifD (λh3=>?_) (λh3=>?_)
     · refine ifD (λh4=>?_) (λh4=>?_)
       · exact ⟨by rw [hC,if_pos ⟨by omega,by omega,by omega⟩],s3.bump _⟩
       · refine To.go ?_
         refine And.intro (by decide) ?_
         refine To.go ?_
         refine ldrw (l:=cA L) e3 hn1 ?_
         refine To.go ?_
         refine ifD (λh5=>?_) (λh5=>?_)
         · exact ⟨by rw [hC,if_pos ⟨by omega,by omega,by omega⟩],s3.bump _⟩
         · exact ⟨by rw [hC,if_neg (by omega)],s3.bump _⟩
     · exact ⟨by rw [hC,if_neg (by omega)],s3.bump _⟩
   · exact ⟨by rw [hC,if_neg (by omega)],s3.bump _⟩
theorem zh3 {a:AV} {L:List Int} {σ:Mem} (ha:RdO 1 σ a (ic L) L.length) (hL:lens L) :
 z1 PG z7T [a] σ λv σ'=>v=.tup [.int .i64 (room L:Nat),.int .i64 (many L:Nat),.int .i64 (most L)]/\σ.Same σ':=by
 refine zhe λlive=>?_
 unfold ze5
 have hla:=ha.lt live
 have hL1:=hL.1
 refine loop4 (λ(i:Nat) (r m t x:Int) σ'=>x=i/\i<=L.length/\r=(room (L.take i):Nat)/\m=(many (L.take i):Nat)/\t=most (L.take i)/\σ.Same σ') (λi=>L.length-i) 0 ⟨rfl,by omega,by simp [room],by simp [many],by simp [most],(Mem.Same.refl σ).bump _⟩ ?_
 rintro i _ _ _ _ σ1 ⟨rfl,hi,rfl,rfl,rfl,s1⟩
 unfold z9N
 have ha1:=ha.keep λb hb=>s1.get b (hla b hb)
 refine ha1.len ?_
 have hr:=zmz (L.take i)
 have hm:=zdS (L.take i)
 rw [List.length_take] at hr hm
 have hmin:min i L.length*32768<=288*32768:=Nat.mul_le_mul_right _ (by omega)
 refine ifD (λhlt=>?_) (λhge=>?_)
 · have hil:i<L.length:=by omega
   obtain ⟨b,bz,c,rfl,hget⟩:=ha1.at hil
   have hx:=hL.2 _ (List.getElem_mem hil)
   have e1:=zeI hil
   have e2:=z6Q hil
   have e3:=z9J hil
   repeat (first | refine To.go ?_ | with_reducible refine And.intro (by omega) ?_)
   refine hget _ ?_
   obtain ⟨x,hxe⟩:∃ x,L[i]=x:=⟨_,rfl⟩
   rw [hxe] at hx e1 e2 e3 hget ⊢
   refine To.go ?_
   refine join3 (λ(r m t:Int) σ'=>r=(room (L.take (i+1)):Nat)/\m=(many (L.take (i+1)):Nat)/\t=most (L.take (i+1))/\σ.Same σ') ?_ ?_
   · rw [e1,e2,e3]
     refine ifD (λh0=>?_) (λh0=>?_)
     · rw [if_pos h0,if_pos h0,if_pos h0]
       repeat (first | refine To.go ?_ | with_reducible refine And.intro (by omega) ?_)
       refine hget _ ?_
       have hp:2^(15-x).toNat<=2^15:=z1D (by omega)
       obtain ⟨y,hy⟩:∃ y,2^(15-x).toNat=y:=⟨_,rfl⟩
       rw [hy] at hp ⊢
       repeat (first | refine To.go ?_ | with_reducible refine And.intro (by omega) ?_)
       rw [show (1:Int)*2^(15-x).toNat=(y:Nat) from by rw [<- hy];simp]
       repeat (first | refine To.go ?_ | with_reducible refine And.intro (by omega) ?_)
       refine hget _ ?_
       repeat (first | refine To.go ?_ | with_reducible refine And.intro (by omega) ?_)
       exact ⟨by unfold imax;split<;>omega,s1.bump _⟩
     · rw [if_neg h0,if_neg h0,if_neg h0]
       exact ⟨by omega,by omega,rfl,s1.bump _⟩
   · rintro _ _ _ σ2 ⟨rfl,rfl,rfl,s2⟩
     unfold z9C
     repeat (first | refine To.go ?_ | with_reducible refine And.intro (by omega) ?_)
     exact again ⟨i+1,⟨by omega,by omega,rfl,rfl,rfl,s2.bump _⟩,by omega⟩
 · obtain rfl:i=L.length:=by omega
   rw [List.take_length]
   exact ⟨rfl,s1.bump _⟩
theorem zig {a:AV} {L:List Int} {σ:Mem} (ha:RdO 1 σ a (ic L) L.length) (hl:L.length<=2^60) :
 z1 PG z7A [a] σ λv σ'=>v=.int .i64 (chk L)/\σ.Same σ':=by
 refine zeD λlive=>?_
 unfold zaA
 have hla:=ha.lt live
 refine ha.len ?_
 refine ifD (λh=>?_) (λh288=>?_)
 · exact ⟨by rw [zbW λh'=>by have:=h'.1;omega],(Mem.Same.refl σ).bump _⟩
 refine loop1 (λ(i:Nat) (x:Int) σ'=>x=i/\i<=L.length/\(∀ x∈L.take i,0<=x/\x<=15)/\σ.Same σ') (λi=>L.length-i) 0 ⟨rfl,by omega,by simp,(Mem.Same.refl σ).bump _⟩ ?_
 rintro i _ σ1 ⟨rfl,hi,hok,s1⟩
 unfold z83
 have ha1:=ha.keep λb hb=>s1.get b (hla b hb)
 refine ha1.len ?_
 refine ifD (λhlt=>?_) (λhge=>?_)
 · have hil:i<L.length:=by omega
   obtain ⟨b,bz,c,rfl,hget⟩:=ha1.at hil
   have hmem:=List.getElem_mem hil
   have htake:=List.take_succ_eq_append_getElem hil
   repeat (first | refine To.go ?_ | with_reducible refine And.intro (by omega) ?_)
   refine hget _ ?_
   obtain ⟨x,hxe⟩:∃ x,L[i]=x:=⟨_,rfl⟩
   rw [hxe] at hmem htake hget ⊢
   refine To.go ?_
   refine ifD (λh0=>?_) (λh0=>?_)
   · exact ⟨by rw [zbW λh'=>by have:=h'.2 x hmem;omega],s1.bump _⟩
   repeat (first | refine To.go ?_ | with_reducible refine And.intro (by omega) ?_)
   refine hget _ ?_
   refine To.go ?_
   refine ifD (λh15=>?_) (λh15=>?_)
   · exact ⟨by rw [zbW λh'=>by have:=h'.2 x hmem;omega],s1.bump _⟩
   repeat (first | refine To.go ?_ | with_reducible refine And.intro (by omega) ?_)
   refine again ⟨i+1,⟨by omega,by omega,λy hy=>?_,s1.bump _⟩,by omega⟩
   rw [htake,List.mem_append] at hy
   rcases hy with hy | hy
   · exact hok y hy
   · simp at hy;rw [hy];omega
 · obtain rfl:i=L.length:=by omega
   have hmo:=zgd (L:=L) (Nat.le_refl _)
   rw [List.take_length] at hok hmo
   have hL:lens L:=⟨by omega,hok⟩
   refine z0 (zh3 (σ:=σ1.bump 13) (ha1.keep λ_ _=>rfl) hL) ?_
   rintro _ σ2 ⟨rfl,s2⟩
   have s02:=s1.trans s2.ob
   have hC:=zkd hL
   obtain ⟨R,hR⟩:∃ R,room L=R:=⟨_,rfl⟩
   obtain ⟨M,hM⟩:∃ M,many L=M:=⟨_,rfl⟩
   obtain ⟨T,hT⟩:∃ T,most L=T:=⟨_,rfl⟩
   obtain ⟨C,hCe⟩:∃ C,chk L=C:=⟨_,rfl⟩
   rw [hM,hT] at hmo
   rw [hR,hM,hCe] at hC
   rw [hR,hM,hT,hCe]
   repeat (first | refine To.go ?_ | ((with_reducible apply opt);(· (rfl))))
   refine ifD (λh1=>?_) (λh1=>?_)
   · exact ⟨by rw [hC,if_pos (by omega)],s02.bump _⟩
   rw [if_neg (by omega)] at hC
   with_reducible refine ifD (λh2=>?_) (λh2=>?_)
   · refine ifD (λh3=>?_) (λh3=>?_)
     · refine ifD (λh4=>?_) (λh4=>?_)
       · have hmo:=hmo.2 (by omega)
         repeat (refine To.go ?_)
         refine ifD (λh5=>?_) (λh5=>?_)
         · exact ⟨by rw [hC,if_neg λh=>h.2.2 ⟨by omega,hmo.1 h5⟩],s02.bump _⟩
         · exact ⟨by rw [hC,if_pos ⟨by omega,by omega,λh=>h5 (hmo.2 h.2)⟩],s02.bump _⟩
       · exact ⟨by rw [hC,if_pos ⟨by omega,by omega,by omega⟩],s02.bump _⟩
     · exact ⟨by rw [hC,if_neg (by omega)],s02.bump _⟩
   · exact ⟨by rw [hC,if_neg (by omega)],s02.bump _⟩
end
section
def fA (L:List Int) (i:Nat):List AV:=ic (arr (λn=>(fc L n+cN (L.take i) n:Nat)) 16)
theorem zb9 (L:List Int) (i:Nat):(fA L i).length=16:=by unfold fA;rw [z0j,zW]
theorem zoT (L:List Int):fA L 0=ic (arr (λn=>(fc L n:Nat)) 16):=by
 unfold fA;rw [z0e (g:=λn=>((fc L n:Nat):Int)) λj _=>by simp [cN]]
theorem zkX {L:List Int} {σ:Mem} (hL:lens L):z1 PG z8W [.agg (cA L)] σ λv σ'=>v=.agg (fA L 0)/\σ.Same σ':=by
 refine zfQ λlive=>?_
 unfold zcB
 refine ⟨z3s _,?_⟩
 repeat (refine To.go ?_)
 simp only [Mem.next_bump,Mem.next_put]
 obtain ⟨b0,hb0⟩:∃ b,σ.next=b:=⟨_,rfl⟩
 refine loop1 (λ(k:Nat) (x:Int) σ'=>x=k/\2<=k/\k<=16/\σ.Same σ'/\σ.next+2<σ'.next/\σ'.get σ.next=some (.rw (cA L))/\(∃ l,σ'.get (σ.next+1)=some (.rw l)/\l.length=16)/\σ'.get (σ.next+2)=some (.rw (ic (arr (λn=>if n<k then (fc L n:Nat) else 0) 16)))) (λk=>16-k) 2 ⟨rfl,by omega,by omega,?_,?_,?_,⟨List.replicate 16 (.int .i64 0),?_,rfl⟩,?_⟩ ?_
 · repeat (with_reducible first | exact Mem.Same.refl _ | refine Mem.Same.bump ?_ _ | refine Mem.Same.put ?_ (by omega) _)
 · simp only [Mem.next_bump,Mem.next_put];omega
 · rw [Mem.get_bump,Mem.get_put_ne _ (by omega),Mem.get_bump,Mem.get_put_ne _ (by omega),gS'];rfl
 · rw [Mem.get_bump,Mem.get_put_ne _ (by omega),Mem.get_bump,gS']
 · rw [Mem.get_bump,gS',zfZ,z0e λj hj=>?_]
   rcases (by omega:j=0\/j=1\/2<=j) with rfl | rfl | h
   · rfl
   · simp [fc,zci]
   · rw [if_neg (by omega)]
 rintro k _ σ1 ⟨rfl,h2,hk,s1,n1,e0,⟨l,e1,hl⟩,e2⟩
 unfold z8m
 simp only [Mem.next_bump,Mem.next_put]
 refine ifD (λhlt=>?_) (λhge=>?_)
 · have hb1:=zaP hL.1 (n:=k-1) (by omega)
   have hb2:=zhA L (k-1)
   have hL1:=hL.1
   have hstep:fc L k=(fc L (k-1)+cN L (k-1))*2:=by
    obtain ⟨m,rfl⟩:∃ m,k=m+1:=⟨k-1,by omega⟩
    rw [fc];rfl
   have g2:(ic (arr (λn=>if n<k then ((fc L n:Nat):Int) else 0) 16))[k-1]? = some (.int .i64 (fc L (k-1):Nat)):=by
    rw [zgh (by omega),if_pos (by omega)]
   have g0:=zoe (L:=L) (k:=k-1) (by omega)
   refine To.go ?_
   refine And.intro (by omega) ?_
   rw [show ((k:Int)-1)=((k-1:Nat):Int) from by omega]
   refine To.go ?_
   refine And.intro (by omega) ?_
   rw [show 0+(k-1)*1=k-1 from by omega]
   refine To.go ?_
   refine ldrw e2 g2 ?_
   refine To.go ?_
   refine To.go ?_
   refine And.intro (by omega) ?_
   refine To.go ?_
   refine And.intro (by omega) ?_
   rw [show 0+(k-1)*1=k-1 from by omega]
   refine To.go ?_
   refine ldrw e0 g0 ?_
   refine To.go ?_
   refine To.go ?_
   refine And.intro (by omega) ?_
   refine To.go ?_
   refine And.intro (by omega) ?_
   refine To.go ?_
   refine And.intro (by omega) ?_
   rw [show 0+k*1=k from by omega]
   refine st1 e2 (by rw [z0j,zW];omega) rfl ?_
   repeat (first | refine To.go ?_ | with_reducible refine And.intro (by omega) ?_)
   refine again ⟨k+1,⟨by omega,by omega,by omega,by repeat (with_reducible first | assumption | refine Mem.Same.bump ?_ _ | refine Mem.Same.put ?_ (by omega) _),by simp only [Mem.next_bump,Mem.next_put];omega,?_,⟨l,?_,hl⟩,?_⟩,by omega⟩
   · rw [Mem.get_bump,Mem.get_put_ne _ (by omega)];exact e0
   · rw [Mem.get_bump,Mem.get_put_ne _ (by omega)];exact e1
   · rw [Mem.get_bump,gS',zaB,za0,z0e λj hj=>?_]
     by_cases hjk:j=k
     · subst hjk;rw [if_pos rfl,if_pos (by omega)];omega
     · rw [if_neg hjk]
       by_cases hj':j<k
       · rw [if_pos hj',if_pos (by omega)]
       · rw [if_neg hj',if_neg (by omega)]
 · obtain rfl:k=16:=by omega
   rw [z0e (g:=λn=>((fc L n:Nat):Int)) λj hj=>if_pos hj,<- zoT] at e2
   refine ldnq e2 rfl (by rw [zb9];omega) ?_
   rw [List.drop_zero,List.take_of_length_le (by rw [zb9];omega)]
   refine stn e1 (by rw [hl];omega) (zb9 L 0) (z3s _) ?_
   rw [z6d (by rw [hl,zb9])]
   refine ldnq gS' rfl (by rw [zb9];omega) ?_
   rw [List.drop_zero,List.take_of_length_le (by rw [zb9];omega)]
   exact ⟨rfl,by repeat (with_reducible first | assumption | refine Mem.Same.bump ?_ _ | refine Mem.Same.put ?_ (by omega) _)⟩
end
section
def zk9 (L:List Int) (σ σ':Mem) (v:AV):Prop:=
 ∃ c,v=.tup [c,.int .i64 (chk L)]/\(chk L≠0->c=.nils)/\(chk L=0->lens L/\∃ b,c=.slice b 0 L.length (.ex L.length)/\σ'.get b=some (.rw (ic (codes L)))/\σ.next<=b/\b<σ'.next)/\σ.Same σ'
theorem zd4 {L:List Int} (h:chk L=0):lens L:=by
 rcases Classical.em (lens L) with h' | h'
 · exact h'
 · rw [zbW h'] at h;exact absurd h (by decide)
theorem zkI {a:AV} {L:List Int} {σ:Mem} (ha:RdO 1 σ a (ic L) L.length) (hl:L.length<=2^60):z1 PG z93 [a] σ λv σ'=>zk9 L σ σ' v:=by
 refine zgr λlive=>?_
 unfold zco
 have hla:=ha.lt live
 refine z0 (zkA (σ:=σ.bump 5) (ha.keep λ_ _=>rfl) hl) ?_
 rintro _ σ1 ⟨rfl,s1⟩
 replace s1:=s1.ob
 refine To.go ?_
 by_cases hc:chk L=0
 · have hL:=zd4 hc
   have hL1:=hL.1
   rw [hc]
   repeat (with_reducible refine ifF (not_not_intro rfl) ?_)
   have ha1:=ha.keep λb hb=>s1.get b (hla b hb)
   refine z0 (z8H (σ:=σ1.bump 7) (ha1.keep λ_ _=>rfl) hL) ?_
   rintro _ σ2 ⟨rfl,s2⟩
   have n2:=s2.next
   simp only [Mem.next_bump] at n2
   replace s2:=s2.ob
   refine z0 (zkX hL) ?_
   rintro _ σ3 ⟨rfl,s3⟩
   have n3:=s3.next
   refine To.go ?_
   obtain ⟨nb,hnb⟩:∃ b,σ1.next+5=b:=⟨_,rfl⟩
   rw [hnb]
   refine stn gS' (by simp) (zb9 L 0) (z3s _) ?_
   rw [z6d (by rw [zb9];simp)]
   have s03:=(s1.trans s2).trans s3
   have s13:=s2.trans s3
   have n1:=s1.next
   refine ha.len ?_
   repeat (first | refine To.go ?_ | with_reducible refine And.intro (by omega) ?_)
   rw [Int.toNat_natCast,z8M]
   simp only [Mem.next_bump,Mem.next_put]
   obtain ⟨ob,hob⟩:∃ b,σ3.next+2=b:=⟨_,rfl⟩
   rw [hob]
   obtain ⟨σ4,h4⟩:∃ σ4,σ4=((((σ3.put nb (some (.rw (List.replicate 16 (.int .i64 0))))).put nb (some (.rw (fA L 0)))).bump 4).put ob (some (.rw (ic (arr (λ_=>0) L.length))))):=⟨_,rfl⟩
   rw [<- h4]
   have n4:σ4.next=σ3.next+4:=by rw [h4];rfl
   have en:σ4.get nb=some (.rw (fA L 0)):=by rw [h4,Mem.get_put_ne _ (by omega),Mem.get_bump,gS']
   have eo:σ4.get ob=some (.rw (ic (arr (λ_=>0) L.length))):=by rw [h4,gS']
   have s04:σ.Same σ4:=by rw [h4];repeat (with_reducible first | assumption | refine Mem.Same.bump ?_ _ | refine Mem.Same.put ?_ (by omega) _)
   clear h4
   have ha4:=ha.keep λb hb=>s04.get b (hla b hb)
   refine ha4.len ?_
   refine loop1 (λ(i:Nat) (x:Int) σ'=>x=i/\i<=L.length/\σ.Same σ'/\ob<σ'.next/\σ'.get nb=some (.rw (fA L i))/\σ'.get ob=some (.rw (ic (arr (λj=>if j<i then (cd L j:Nat) else 0) L.length)))) (λi=>L.length-i) 0 ⟨rfl,by omega,s04.bump _,by simp only [Mem.next_bump];omega,en,?_⟩ ?_
   · rw [Mem.get_bump,eo,z0e λj hj=>?_]
     rw [if_neg (by omega)]
   rintro i _ σ5 ⟨rfl,hi,s5,n5,e5,o5⟩
   unfold z95
   simp only [Mem.next_bump,Mem.next_put]
   rw [hnb,hob,Int.toNat_natCast]
   refine ifD (λhlt=>?_) (λhge=>?_)
   · have hil:i<L.length:=by omega
     obtain ⟨b,bz,c,hae,hget⟩:=(ha.keep λb hb=>s5.get b (hla b hb)).at hil
     have hx:=hL.2 _ (List.getElem_mem hil)
     have hcn:=z1P hil
     have hcd:=λn=>zpV (n:=n) hil
     have hcd0:=zlV hil
     have hab:b<σ.next:=hla b (by rw [hae];simp [z3])
     rw [hae]
     refine To.go ?_
     refine And.intro (by omega) ?_
     refine hget _ ?_
     obtain ⟨x,hxe⟩:∃ x,L[i]=x:=⟨_,rfl⟩
     rw [hxe] at hx hcn hcd hcd0 ⊢
     refine To.go ?_
     refine join0 (λσ'=>σ.Same σ'/\ob<σ'.next/\σ'.get nb=some (.rw (fA L (i+1)))/\σ'.get ob=some (.rw (ic (arr (λj=>if j<i+1 then (cd L j:Nat) else 0) L.length)))) ?_ ?_
     · refine ifD (λh0=>?_) (λh0=>?_)
       · obtain ⟨m,rfl⟩:=z20 hx.1
         have hm:=hcd m rfl (by omega)
         have hb1:=zaP hL1 (n:=m) (by omega)
         have hb2:=z9l L i m
         have hb3:=zhA L m
         have g5:(fA L i)[m]? = some (.int .i64 (cd L i:Nat)):=by
          unfold fA;rw [zgh (by omega),hm]
         refine To.go ?_
         refine And.intro (by omega) ?_
         rw [show 0+m*1=m from by omega]
         refine To.go ?_
         refine ldrw e5 g5 ?_
         refine To.go ?_
         refine To.go ?_
         refine And.intro (by omega) ?_
         refine st1 o5 (by rw [z0j,zW];omega) rfl ?_
         refine To.go ?_
         refine And.intro (by omega) ?_
         rw [show 0+m*1=m from by omega]
         refine To.go ?_
         refine ldrw (l:=fA L i) (by rw [Mem.get_bump,Mem.get_put_ne _ (by omega)];exact e5) g5 ?_
         refine To.go ?_
         refine To.go ?_
         refine And.intro (by omega) ?_
         refine To.go ?_
         refine And.intro (by omega) ?_
         rw [show 0+m*1=m from by omega]
         refine st1 (l:=fA L i) (by rw [Mem.get_bump,Mem.get_put_ne _ (by omega)];exact e5) (by rw [zb9];omega) rfl ?_
         refine ⟨by repeat (with_reducible first | assumption | refine Mem.Same.bump ?_ _ | refine Mem.Same.put ?_ (by omega) _),by simp only [Mem.next_bump,Mem.next_put];omega,?_,?_⟩
         · rw [gS']
           unfold fA
           rw [zaB,za0,z0e λj hj=>?_]
           rw [hcn j,hm]
           by_cases hjm:j=m
           · subst hjm;rw [if_pos rfl,if_pos ⟨h0,rfl⟩];omega
           · rw [if_neg hjm,if_neg λe=>hjm (by omega)];omega
         · rw [Mem.get_put_ne _ (by omega),Mem.get_bump,gS',zaB,za0,z0e λj hj=>?_]
           by_cases hji:j=i
           · subst hji;rw [if_pos rfl,if_pos (by omega)]
           · rw [if_neg hji]
             by_cases hj':j<i
             · rw [if_pos hj',if_pos (by omega)]
             · rw [if_neg hj',if_neg (by omega)]
       · refine ⟨s5.bump _,by simp only [Mem.next_bump];omega,?_,?_⟩
         · rw [Mem.get_bump,e5]
           unfold fA
           rw [z0e λj hj=>?_]
           rw [hcn j,if_neg λe=>h0 e.1];omega
         · rw [Mem.get_bump,o5,z0e λj hj=>?_]
           by_cases hji:j=i
           · subst hji;rw [if_neg (by omega),if_pos (by omega),hcd0 h0];rfl
           · by_cases hj':j<i
             · rw [if_pos hj',if_pos (by omega)]
             · rw [if_neg hj',if_neg (by omega)]
     · rintro σ6 ⟨s6,n6,e6,o6⟩
       unfold z8n
       repeat (first | refine To.go ?_ | with_reducible refine And.intro (by omega) ?_)
       exact again ⟨i+1,⟨by omega,by omega,s6.bump _,by simp only [Mem.next_bump];omega,e6,o6⟩,by omega⟩
   · obtain rfl:i=L.length:=by omega
     refine ⟨_,by rw [hc],λh=>absurd hc h,λ_=>⟨hL,ob,rfl,?_,by have:=s03.next;omega,by simp only [Mem.next_bump];omega⟩,s5.bump _⟩
     rw [Mem.get_bump,o5]
     unfold codes
     rw [z0e λj hj=>if_pos hj]
 · refine ifD (λh=>?_) (λh=>absurd (Decidable.not_not.1 h) hc)
   exact ⟨_,rfl,λ_=>rfl,λh=>absurd h hc,s1.bump _⟩
end
section
def cdB (L:List Int) (n i j:Nat):Int:=if 0<L.getD j 0/\(L.getD j 0<n\/L.getD j 0=n/\j<i) then (cd L j:Nat) else 0
def CW (L:List Int) (n i:Nat) (code was:Int):Prop:=
 (was=0/\code=0/\fc L n+cN (L.take i) n=0)\/∃ w c:Nat,was=w/\code=c/\1<=w/\w<=n/\(c+1)*2^(n-w)=fc L n+cN (L.take i) n
theorem CW.next {L:List Int} {n i:Nat} {code was:Int} (h:CW L n i code was) (hi:L.length<=i):CW L (n+1) 0 code was:=by
 have e:fc L (n+1)+cN (L.take 0) (n+1)=(fc L n+cN (L.take i) n)*2:=by
  rw [fc,List.take_of_length_le hi];simp [cN]
 rcases h with ⟨h1,h2,h3⟩ | ⟨w,c,h1,h2,h3,h4,h5⟩
 · refine .inl ⟨h1,h2,?_⟩
   rw [e,h3]
 · refine .inr ⟨w,c,h1,h2,h3,by omega,?_⟩
   rw [e,<- h5,show n+1-w=(n-w)+1 from by omega,Nat.pow_succ,Nat.mul_assoc]
theorem znA {L:List Int} {n j:Nat} (i:Nat) (hj:j<L.length) (hi:L.length<=i):cdB L n i j=cdB L (n+1) 0 j:=by
 unfold cdB
 by_cases h:0<L.getD j 0/\(L.getD j 0<n\/L.getD j 0=n/\j<i)
 · rw [if_pos h,if_pos (by omega)]
 · rw [if_neg h,if_neg (by omega)]
theorem ziF {a:AV} {L:List Int} {σ:Mem} (ha:RdO 1 σ a (ic L) L.length) (hl:L.length<=2^60):z1 PG z7E [a] σ λv σ'=>zk9 L σ σ' v:=by
 refine zeE λlive=>?_
 unfold zbx
 have hla:=ha.lt live
 refine z0 (zig (σ:=σ.bump 5) (ha.keep λ_ _=>rfl) hl) ?_
 rintro _ σ1 ⟨rfl,s1⟩
 have n1:=s1.next
 simp only [Mem.next_bump] at n1
 replace s1:=s1.ob
 refine To.go ?_
 by_cases hc:chk L=0
 · have hL:=zd4 hc
   have hL1:=hL.1
   rw [hc]
   refine ifD (λh=>absurd rfl h) (λ_=>?_)
   refine ha.len ?_
   repeat (first | refine To.go ?_ | with_reducible refine And.intro (by omega) ?_)
   rw [Int.toNat_natCast,z8M]
   obtain ⟨ob,hob⟩:∃ b,σ1.next+4=b:=⟨_,rfl⟩
   rw [hob]
   obtain ⟨σ2,h2⟩:∃ σ2,σ2=(σ1.bump 6).put ob (some (.rw (ic (arr (λ_=>0) L.length)))):=⟨_,rfl⟩
   rw [<- h2]
   have n2:σ2.next=σ1.next+6:=by rw [h2];rfl
   have eo:σ2.get ob=some (.rw (ic (arr (λ_=>0) L.length))):=by rw [h2,gS']
   have s2:σ.Same σ2:=by rw [h2];repeat (with_reducible first | assumption | refine Mem.Same.bump ?_ _ | refine Mem.Same.put ?_ (by omega) _)
   clear h2
   refine loop3 (λ(n:Nat) (code was x:Int) σ'=>x=n/\1<=n/\n<=16/\CW L n 0 code was/\σ.Same σ'/\ob<σ'.next/\σ'.get ob=some (.rw (ic (arr (cdB L n 0) L.length)))) (λn=>16-n) 1 ⟨rfl,by omega,by omega,?_,s2.bump _,by simp only [Mem.next_bump];omega,?_⟩ ?_
   · refine .inl ⟨rfl,rfl,?_⟩
     rw [fc,fc,zci];simp [cN]
   · rw [Mem.get_bump,eo,z0e λj hj=>?_]
     unfold cdB
     rw [if_neg (by omega)]
   rintro n code was _ σ3 ⟨rfl,hn1,hn2,hcw,s3,n3,o3⟩
   unfold z8c
   refine ifD (λhle=>?_) (λhgt=>?_)
   · have hb1:=zaP hL1 (n:=n) (by omega)
     refine loop3 (λ(i:Nat) (code was x:Int) σ'=>x=i/\i<=L.length/\CW L n i code was/\σ.Same σ'/\ob<σ'.next/\σ'.get ob=some (.rw (ic (arr (cdB L n i) L.length)))) (λi=>L.length-i) 0 ⟨rfl,by omega,hcw,s3.bump _,by simp only [Mem.next_bump];omega,o3⟩ ?_
     rintro i code was _ σ4 ⟨rfl,hi,hcw,s4,n4,o4⟩
     unfold z8a
     refine ha.len ?_
     refine ifD (λhlt=>?_) (λhge=>?_)
     · have hil:i<L.length:=by omega
       obtain ⟨b,bz,c,hae,hget⟩:=(ha.keep λb hb=>s4.get b (hla b hb)).at hil
       have hx:=hL.2 _ (List.getElem_mem hil)
       have hcn:=z1P hil
       have hcd:=zpV (n:=n) hil
       have hgd:=zA hil
       have hab:b<σ.next:=hla b (by rw [hae];simp [z3])
       have hb2:=z9l L i n
       have hb3:=zhA L n
       rw [hae]
       refine join2 (λcode was σ'=>CW L n (i+1) code was/\σ.Same σ'/\ob<σ'.next/\σ'.get ob=some (.rw (ic (arr (cdB L n (i+1)) L.length)))) ?_ ?_
       · refine To.go ?_
         refine And.intro (by omega) ?_
         refine hget _ ?_
         obtain ⟨x,hxe⟩:∃ x,L[i]=x:=⟨_,rfl⟩
         rw [hxe] at hx hcn hcd hgd ⊢
         refine To.go ?_
         refine ifD (λhne=>?_) (λheq=>?_)
         · refine ⟨?_,s4.bump _,by simp only [Mem.next_bump];omega,?_⟩
           · unfold CW
             rw [hcn n,if_neg (by omega)]
             exact hcw
           · rw [Mem.get_bump,o4,z0e λj hj=>?_]
             unfold cdB
             by_cases hji:j=i
             · subst hji
               rw [hgd]
               by_cases h:0<x/\(x<n\/x=n/\j<j)
               · rw [if_pos h,if_pos (by omega)]
               · rw [if_neg h,if_neg (by omega)]
             · by_cases h:0<L.getD j 0/\(L.getD j 0<n\/L.getD j 0=n/\j<i)
               · rw [if_pos h,if_pos (by omega)]
               · rw [if_neg h,if_neg (by omega)]
         · obtain rfl:x=n:=by omega
           have hm:=hcd rfl (by omega)
           have hfin:∀ σ',σ.Same σ'->ob<σ'.next->σ'.get ob=some (.rw (ic (arr (cdB L n i) L.length)))->z58 σ1 L.length n i (λcode was σ'=>CW L n (i+1) code was/\σ.Same σ'/\ob<σ'.next/\σ'.get ob=some (.rw (ic (arr (cdB L n (i+1)) L.length)))) (cd L i:Nat) σ':=by
            intro σ' s' n' o'
            unfold z58
            rw [hob,Int.toNat_natCast]
            refine To.go ?_
            refine And.intro (by omega) ?_
            refine st1 o' (by rw [z0j,zW];omega) rfl ?_
            skip
            refine ⟨.inr ⟨n,cd L i,rfl,rfl,by omega,Nat.le_refl _,?_⟩,by repeat (with_reducible first | assumption | refine Mem.Same.bump ?_ _ | refine Mem.Same.put ?_ (by omega) _),by simp only [Mem.next_bump,Mem.next_put];omega,?_⟩
            · rw [hcn n,if_pos ⟨by omega,rfl⟩,hm,Nat.sub_self,Nat.pow_zero,Nat.mul_one];omega
            · rw [Mem.get_bump,gS',zaB,za0,z0e λj hj=>?_]
              unfold cdB
              by_cases hji:j=i
              · subst hji
                rw [hgd,if_pos rfl,if_pos (by omega)]
              · rw [if_neg hji]
                by_cases h:0<L.getD j 0/\(L.getD j 0<n\/L.getD j 0=n/\j<i)
                · rw [if_pos h,if_pos (by omega)]
                · rw [if_neg h,if_neg (by omega)]
           refine join1 (λv σ'=>v=(cd L i:Nat)/\σ.Same σ'/\ob<σ'.next/\σ'.get ob=some (.rw (ic (arr (cdB L n i) L.length)))) ?_ ?_
           · rcases hcw with ⟨rfl,rfl,h3⟩ | ⟨w,c,rfl,rfl,h3,h4,h5⟩
             · refine ifD (λh=>absurd h (by omega)) (λ_=>?_)
               exact ⟨by rw [hm,h3];rfl,s4.bump _,by simp only [Mem.next_bump];omega,o4⟩
             · refine ifD (λ_=>?_) (λh=>absurd h (by omega))
               have hp:0<2^(n-w):=Nat.two_pow_pos _
               have hcb:c+1<=(c+1)*2^(n-w):=Nat.le_mul_of_pos_right _ hp
               have e:((c:Int)+1)*2^((n:Int)-w).toNat=(cd L i:Nat):=by
                rw [hm,<- h5,show ((n:Int)-w).toNat=n-w from by omega];push_cast;rfl
               refine To.go ?_
               refine And.intro (by omega) ?_
               refine To.go ?_
               refine And.intro (by omega) ?_
               refine To.go ?_
               refine And.intro (by omega) ?_
               rw [e]
               refine To.go ?_
               refine And.intro (by omega) ?_
               exact ⟨rfl,s4.bump _,by simp only [Mem.next_bump];omega,o4⟩
           · rintro _ σ5 ⟨rfl,s5,n5,o5⟩
             exact hfin σ5 s5 n5 o5
       · rintro code was σ5 ⟨hcw,s5,n5,o5⟩
         unfold z7U
         repeat (first | refine To.go ?_ | with_reducible refine And.intro (by omega) ?_)
         exact again ⟨i+1,⟨by omega,by omega,hcw,s5.bump _,by simp only [Mem.next_bump];omega,o5⟩,by omega⟩
     · have hil:L.length<=i:=by omega
       repeat (first | refine To.go ?_ | with_reducible refine And.intro (by omega) ?_)
       refine again ⟨n+1,⟨by omega,by omega,by omega,hcw.next hil,s4.bump _,by simp only [Mem.next_bump];omega,?_⟩,by omega⟩
       rw [Mem.get_bump,o4,z0e λj hj=>znA i hj hil]
   · obtain rfl:n=16:=by omega
     rw [hob,Int.toNat_natCast]
     refine ⟨_,by rw [hc],λh=>absurd hc h,λ_=>⟨hL,ob,rfl,?_,by have:=s1.next;omega,by simp only [Mem.next_bump];omega⟩,s3.bump _⟩
     rw [Mem.get_bump,o3]
     unfold codes
     rw [z0e λj hj=>?_]
     have:=hL.2 _ (List.getElem_mem hj)
     have hgd:=zA hj
     unfold cdB
     rw [hgd]
     by_cases h:0<L[j]
     · rw [if_pos (by omega)]
     · rw [if_neg (by omega),zlV hj h];rfl
 · refine ifD (λh=>?_) (λh=>absurd (Decidable.not_not.1 h) hc)
   exact ⟨_,rfl,λ_=>rfl,λh=>absurd h hc,s1.bump _⟩
theorem zpQ {L:List Int} (hL:lens L) (i:Nat):cd L i<=288*65536+288:=by
 unfold cd
 split
 · rename_i h
   have hm:(L.getD i 0).toNat<=15:=by
    by_cases hi:i<L.length
    · rw [zA hi];have:=hL.2 _ (List.getElem_mem hi);omega
    · rw [List.getD_eq_getElem?_getD,List.getElem?_eq_none (by omega)];exact Nat.zero_le _
   have h1:=zaP hL.1 hm
   have h2:=z9l L i (L.getD i 0).toNat
   have h3:=zhA L (L.getD i 0).toNat
   have:=hL.1
   omega
 · omega
theorem zk9.rdO {L:List Int} {σ σ':Mem} {v:AV} (h:zk9 L σ σ' v):∃ c l,v=.tup [c,.int .i64 (chk L)]/\l.length<=L.length/\l=(if chk L=0 then codes L else [])/\RdO 1 σ' c (ic l) l.length/\(∀ b∈z3 c,σ.next<=b/\b<σ'.next)/\(∀ n:Nat,n=l.length->(n≠0->∃ b,c=.slice b 0 n (.ex n)/\σ'.get b=some (.rw (ic l))/\σ.next<=b/\b<σ'.next))/\σ.Same σ':=by
 obtain ⟨c,rfl,h1,h2,h3⟩:=h
 by_cases hc:chk L=0
 · obtain ⟨hL,b,rfl,hg,hb,hb'⟩:=h2 hc
   refine ⟨_,codes L,rfl,by rw [z4V];omega,by rw [if_pos hc],.mk (by rw [z4V]) ⟨_,hg,rfl⟩ (by rw [z0j];omega),λb' hm=>by simp [z3] at hm;omega,?_,h3⟩
   rintro n rfl hn
   exact ⟨b,by rw [z4V],hg,hb,hb'⟩
 · rw [h1 hc]
   exact ⟨_,[],rfl,by simp,by rw [if_neg hc],.inl ⟨rfl,rfl,rfl⟩,λb' hm=>by simp [z3] at hm,λn hn h=>absurd hn h,h3⟩
end
section
theorem z6 {n:Int} {K:Int->Prop} (h : -9223372036854775808<=n/\n<=9223372036854775807) (hk:K n):iW n K:=by rw [zqe h];exact hk
theorem rdI {b n m:Nat} {c:Cap} {X:List Int} {σ:Mem} {i x:Int} {K:Int->Prop} (hg:σ.get b=some (.rw (ic X))) (hn:X.length=n) (hi:i=(m:Nat)) (hx:X[m]? = some x) (hk:K x):zz 1 (.slice b 0 n c) i λv=>ldI σ v K:=by
 subst hi
 have hm:=(List.getElem?_eq_some_iff.1 hx).1
 refine To.go ?_
 refine And.intro (by omega) ?_
 refine To.go ?_
 refine ldrw hg (v:=.int .i64 x) ?_ ?_
 · rw [zdW hm]
   rw [List.getElem?_eq_getElem hm] at hx
   injection hx with hx
   rw [hx]
 · refine To.go ?_
   exact hk
theorem wrI {b n m:Nat} {c:Cap} {X:List Int} {σ:Mem} {i x:Int} {K:Mem->Prop} (hg:σ.get b=some (.rw (ic X))) (hn:X.length=n) (hi:i=(m:Nat)) (hm:m<n) (hk:K (σ.put b (some (.rw (ic (X.set m x)))))):zz 1 (.slice b 0 n c) i λv=>stW 1 σ v (.int .i64 x) K:=by
 subst hi
 refine To.go ?_
 refine And.intro (by omega) ?_
 refine st1 hg (by rw [z0j];omega) rfl ?_
 rw [zaB]
 exact hk
def Arr (σ0 σ:Mem) (b:Nat) (X:List Int):Prop:=Mem.Only [b] σ0 σ/\σ.get b=some (.rw (ic X))
theorem Arr.bump {σ0 σ:Mem} {b:Nat} {X:List Int} (h:Arr σ0 σ b X) (k:Nat):Arr σ0 (σ.bump k) b X:=⟨⟨Nat.le_trans h.1.next (by rw [Mem.next_bump];omega),λb' h1 h2=>h.1.get b' h1 h2⟩,h.2⟩
theorem Arr.put {σ0 σ:Mem} {b:Nat} {X Y:List Int} (h:Arr σ0 σ b X):Arr σ0 (σ.put b (some (.rw (ic Y)))) b Y:=
 ⟨⟨h.1.next,λb' h1 h2=>by rw [Mem.get_put_ne _ (by simpa using h2)];exact h.1.get b' h1 h2⟩,gS'⟩
theorem Arr.self {σ:Mem} {b:Nat} {X:List Int} (h:σ.get b=some (.rw (ic X))):Arr σ σ b X:=⟨⟨Nat.le_refl _,λ_ _ _=>rfl⟩,h⟩
theorem Arr.trans {σ0 σ1 σ2:Mem} {b:Nat} {X Y:List Int} (h:Arr σ0 σ1 b X) (g:Arr σ1 σ2 b Y):Arr σ0 σ2 b Y:=
 ⟨⟨Nat.le_trans h.1.next g.1.next,λb' h1 h2=>(g.1.get b' (Nat.lt_of_lt_of_le h1 h.1.next) h2).trans (h.1.get b' h1 h2)⟩,g.2⟩
theorem Arr.same {σ0 σ1 σ2:Mem} {b:Nat} {X:List Int} (h:Arr σ0 σ1 b X) (s:σ1.Same σ2) (hb:b<σ1.next):Arr σ0 σ2 b X:=
 ⟨⟨Nat.le_trans h.1.next s.next,λb' h1 h2=>(s.get b' (Nat.lt_of_lt_of_le h1 h.1.next)).trans (h.1.get b' h1 h2)⟩,(s.get b hb).trans h.2⟩
theorem Arr.eq {σ0 σ:Mem} {b:Nat} {X Y:List Int} (h:Arr σ0 σ b X) (e:X=Y):Arr σ0 σ b Y:=e ▸ h
theorem z0N {b n:Nat} {c:Cap} {cmp:AV} {σ:Mem} {X P U M V R:List Int} {a1 a2 a3:Int} (hX:X=P++(U++(M++(V++R)))) (hg:σ.get b=some (.rw (ic X))) (hn:X.length=n) (hl:n<=2^60) (h1:a1=P.length) (h2:a2=(P.length+U.length+M.length:Nat)) (h3:a3=U.length) (hv:V.length=U.length) :
 z1 PG zD [.slice b 0 n c,.int .i64 a1,.int .i64 a2,.int .i64 a3,cmp] σ λ_ σ'=>Arr σ σ' b (P++(V++(M++(U++R)))):=by
 refine z4z λlive=>?_
 unfold z1O
 subst h1 h2 h3
 have hlen:n=P.length+U.length+M.length+V.length+R.length:=by rw [<- hn,hX];simp only [List.length_append];omega
 refine loop1 (λ(i:Nat) (x:Int) σ'=>x=i/\i<=U.length/\∃ U1 U2 V1 V2,U=U1++U2/\V=V1++V2/\U1.length=i/\V1.length=i/\Arr σ σ' b (P++(V1++(U2++(M++(U1++(V2++R))))))) (λi=>U.length-i) 0 ⟨rfl,by omega,[],U,[],V,rfl,rfl,rfl,rfl,(Arr.self (by rw [hg,hX];rfl)).bump _⟩ ?_
 rintro i _ σ1 ⟨rfl,hi,U1,U2,V1,V2,rfl,rfl,hU1,hV1,ar⟩
 unfold z1n
 simp only [List.length_append] at hi hlen hv ⊢
 refine ifD (λhlt=>?_) (λhge=>?_)
 · obtain ⟨x,U2,rfl⟩:=z2d U2 (by rintro rfl;simp at hlt;omega)
   obtain ⟨y,V2,rfl⟩:=z2d V2 (by rintro rfl;simp at hv hlt;omega)
   simp only [List.length_cons] at hi hlen hv hlt ⊢
   have e:P++(V1++(x::U2++(M++(U1++(y::V2++R)))))=(P++V1)++x::((U2++(M++U1))++y::(V2++R)):=by simp
   rw [e] at ar
   refine z6 (by omega) ?_
   refine z6 (by omega) ?_
   refine z6 (by omega) ?_
   refine rdI (m:=P.length+(U1.length+U2.length+1)+M.length+i) (x:=y) ar.2 (by simp;omega) (by omega) ?_ ?_
   · rw [<- List.cons_append,<- List.append_assoc]
     exact z1K (by simp;omega)
   refine z6 (by omega) ?_
   refine rdI (m:=P.length+i) (x:=x) ar.2 (by simp;omega) (by omega) (z1K (by simp;omega)) ?_
   refine wrI (m:=P.length+i) ar.2 (by simp;omega) (by omega) (by omega) ?_
   refine wrI (m:=P.length+(U1.length+U2.length+1)+M.length+i) gS' (by simp;omega) (by omega) (by omega) ?_
   rw [swap2 (by simp;omega) (by simp;omega)]
   refine z6 (by omega) ?_
   refine again ⟨i+1,⟨by omega,by omega,U1++[x],U2,V1++[y],V2,by simp,by simp,by simp;omega,by simp;omega,?_⟩,by omega⟩
   refine (((ar.bump _).put (Y:=_)).put.bump _).eq ?_
   simp
 · obtain rfl:U2=[]:=List.length_eq_zero_iff.1 (by omega)
   obtain rfl:V2=[]:=List.length_eq_zero_iff.1 (by simp at hv;omega)
   refine (ar.bump _).eq ?_
   simp
theorem z7M {b n:Nat} {c:Cap} {cmp:AV} {σ:Mem} {X P U V R:List Int} {a1 a2 a3:Int} (hX:X=P++(U++(V++R))) (hg:σ.get b=some (.rw (ic X))) (hn:X.length=n) (hl:n<=2^60) (h1:a1=P.length) (h2:a2=(P.length+U.length:Nat)) (h3:a3=(P.length+U.length+V.length:Nat)) (hu:0<U.length) (hv:0<V.length) :
 z1 PG z1c [.slice b 0 n c,.int .i64 a1,.int .i64 a2,.int .i64 a3,cmp] σ λ_ σ'=>Arr σ σ' b (P++(V++(U++R))):=by
 refine z5u λlive=>?_
 unfold z2H
 subst h1 h3
 have hlen:n=P.length+U.length+V.length+R.length:=by rw [<- hn,hX];simp only [List.length_append];omega
 obtain ⟨m,hm⟩:∃ m,m=P.length+U.length:=⟨_,rfl⟩
 rw [<- hm] at h2
 subst h2
 refine z6 (by omega) ?_
 refine z6 (by omega) ?_
 obtain ⟨T,hT⟩:∃ T,T=P++(V++(U++R)):=⟨_,rfl⟩
 rw [<- hT]
 refine loop2 (λ(s:Nat) (i j:Int) σ'=>∃ P' U' V' R',i=U'.length/\j=V'.length/\s=U'.length+V'.length/\0<U'.length/\0<V'.length/\m=P'.length+U'.length/\n=P'.length+U'.length+V'.length+R'.length/\T=P'++(V'++(U'++R'))/\Arr σ σ' b (P'++(U'++(V'++R')))) (λs=>s) (U.length+V.length) ⟨P,U,V,R,by omega,by omega,rfl,hu,hv,hm,hlen,hT,(Arr.self (by rw [hg,hX])).bump _⟩ ?_
 clear hT hX hm hlen hu hv hg
 rintro s _ _ σ1 ⟨P,U,V,R,rfl,rfl,rfl,hu,hv,hm,hlen,rfl,ar⟩
 unfold z1N
 refine ifD (λhne=>?_) (λheq=>?_)
 · refine zu ?_
   refine ifD (λhlt=>?_) (λhge=>?_)
   · obtain ⟨U1,U2,rfl,hU⟩:=z2n U (k:=V.length) (by omega)
     simp only [List.length_append] at hu hm hlen hne hlt ⊢
     refine z6 (by omega) ?_
     refine z0 (z0N (P:=P) (U:=U1) (M:=U2) (V:=V) (R:=R) rfl (by rw [Mem.get_bump,ar.2];simp) (by simp;omega) hl (by omega) (by omega) (by omega) (by omega)) ?_
     intro v σ2 a2
     refine z6 (by omega) ?_
     unfold z0t
     refine again ⟨U2.length+U1.length,⟨P++V,U2,U1,R,by omega,by omega,rfl,by omega,by omega,by simp;omega,by simp;omega,by simp,?_⟩,by omega⟩
     refine (((ar.bump _).trans a2).bump _).eq ?_
     simp
   · obtain ⟨V1,V2,rfl,hV⟩:=z2n V (k:=V.length-U.length) (by omega)
     simp only [List.length_append] at hv hm hlen hne hge hV ⊢
     refine z6 (by omega) ?_
     refine z6 (by omega) ?_
     refine z6 (by omega) ?_
     refine z0 (z0N (P:=P) (U:=U) (M:=V1) (V:=V2) (R:=R) rfl (by rw [Mem.get_bump,ar.2];simp) (by simp;omega) hl (by omega) (by omega) (by omega) (by omega)) ?_
     intro v σ2 a2
     refine z6 (by omega) ?_
     unfold z0t
     refine again ⟨V2.length+V1.length,⟨P,V2,V1,U++R,by omega,by omega,rfl,by omega,by omega,by omega,by simp;omega,by simp,?_⟩,by omega⟩
     refine (((ar.bump _).trans a2).bump _).eq ?_
     simp
 · refine z6 (by omega) ?_
   refine z0 (z0N (P:=P) (U:=U) (M:=[]) (V:=V) (R:=R) rfl (by rw [Mem.get_bump,ar.2];simp) (by simp;omega) hl (by omega) (by simp;omega) (by omega) (by omega)) ?_
   intro v σ2 a2
   exact ((ar.bump _).trans a2).eq (by simp)
end
section
def Cmp (σ0:Mem) (b:Nat) (key:Int->Int) (S:Int->Prop) (cmp:AV):Prop:=
 ∀ σ x y,Mem.Only [b] σ0 σ->S x->S y->∀ K:AV->Mem->Prop,(∀ c σ',(c<0↔key x<key y)->σ.Same σ'->K (.int .i64 c) σ')->z3m PG cmp [.int .i64 x,.int .i64 y] σ K
theorem Cmp.of {σ0 σ1:Mem} {b:Nat} {key:Int->Int} {S:Int->Prop} {cmp:AV} (h:Cmp σ0 b key S cmp) (o:Mem.Only [b] σ0 σ1):Cmp σ1 b key S cmp:=λσ x y o'=>h σ x y ⟨Nat.le_trans o.next o'.next,λb' h1 h2=>(o'.get b' (Nat.lt_of_lt_of_le h1 o.next) h2).trans (o.get b' h1 h2)⟩
theorem Cmp.sub {σ0:Mem} {b:Nat} {key:Int->Int} {S S':Int->Prop} {cmp:AV} (h:Cmp σ0 b key S cmp) (hs:∀ x,S' x->S x):Cmp σ0 b key S' cmp:=λσ x y o hx hy=>h σ x y o (hs x hx) (hs y hy)
variable {b n:Nat} {c:Cap} {cmp:AV} {key:Int->Int} {S:Int->Prop}
theorem Arr.lt {σ0 σ:Mem} {X:List Int} (h:Arr σ0 σ b X) (hb:b<σ0.next):b<σ.next:=Nat.lt_of_lt_of_le hb h.1.next
theorem z0S {σ:Mem} {X P A R:List Int} {a1 a2:Int} (hX:X=P++(A++R)) (hg:σ.get b=some (.rw (ic X))) (hb:b<σ.next) (hn:X.length=n) (hl:n<=2^60) (h1:a1=P.length) (h2:a2=(P.length+A.length:Nat)) (hS:∀ x∈A,S x) (hc:Cmp σ b key S cmp) :
 z1 PG zr [.slice b 0 n c,.int .i64 a1,.int .i64 a2,cmp] σ λ_ σ'=>∃ C,Stb key A C/\Srt key C/\Arr σ σ' b (P++(C++R)):=by
 refine z13 λlive=>?_
 unfold z00
 subst h1 h2
 have hlen:n=P.length+A.length+R.length:=by rw [<- hn,hX];simp only [List.length_append];omega
 refine z6 (by omega) ?_
 refine loop1 (λ(k:Nat) (x:Int) σ'=>x=(P.length+k:Nat)/\1<=k/\(A≠[]->k<=A.length)/\∃ D0 D E,A=D0++E/\(A≠[]->D0.length=k)/\Stb key D0 D/\Srt key D/\Arr σ σ' b (P++(D++(E++R)))) (λk=>A.length-k) 1 ⟨by omega,by omega,λh=>by cases A with | nil=>exact absurd rfl h | cons x l=>simp,?_⟩ ?_
 · cases A with
   | nil=>exact ⟨[],[],[],rfl,λh=>absurd rfl h,Stb.refl _,List.Pairwise.nil,(Arr.self (by rw [hg,hX];rfl)).bump _⟩
   | cons x l=>exact ⟨[x],[x],l,rfl,λ_=>rfl,Stb.refl _,List.pairwise_singleton _ _,(Arr.self (by rw [hg,hX];rfl)).bump _⟩
 rintro k _ σ1 ⟨rfl,hk,hkA,D0,D,E,hA,hD0,sD,oD,ar⟩
 unfold zQ
 refine ifD (λhlt=>?_) (λhge=>?_)
 · have hne:A≠[]:=by rintro rfl;simp at hlt;omega
   have hkA:=hkA hne
   have hD0:=hD0 hne
   obtain ⟨x,E,rfl⟩:=z2d E (by rintro rfl;rw [hA] at hlt;simp at hlt;omega)
   have hAl:A.length=D0.length+(E.length+1):=by rw [hA];simp
   have hDl:=sD.1
   have hxS:S x:=hS x (by rw [hA];simp)
   have hDS:∀ y∈D,S y:=λy hy=>hS y (by rw [hA];exact List.mem_append_left _ ((sD.mem y).1 hy))
   refine join0 (λσ'=>∃ D1 D2,D=D1++D2/\(∀ y∈D1,key y<=key x)/\(∀ y∈D2,key x<key y)/\Arr σ σ' b (P++(D1++x::(D2++(E++R))))) ?_ ?_
   · refine loop1 (λ(m:Nat) (j:Int) σ'=>j=(P.length+m:Nat)/\∃ D1 D2,D=D1++D2/\D1.length=m/\(∀ y∈D2,key x<key y)/\Arr σ σ' b (P++(D1++x::(D2++(E++R))))) (λm=>m) k ⟨by omega,D,[],by simp,by omega,λy h=>by simp at h,(ar.bump _).eq (by simp)⟩ ?_
     rintro m _ σ2 ⟨rfl,D1,D2,hD,hD1,gt,ar⟩
     unfold z0Q
     have hD12:D.length=D1.length+D2.length:=by rw [hD,List.length_append]
     refine ifD (λhlt=>?_) (λhge=>?_)
     · obtain ⟨D1,y,rfl⟩:=z9d D1 (by rintro rfl;simp at hD1;omega)
       have hyS:S y:=hDS y (by rw [hD];simp)
       have e:P++(D1++[y]++x::(D2++(E++R)))=(P++D1)++y::([]++x::(D2++(E++R))):=by simp
       rw [e] at ar
       simp only [List.length_append,List.length_cons,List.length_nil] at hD1 hD12 hD
       refine rdI (m:=P.length+m) (x:=x) ar.2 (by simp;omega) (by omega) ?_ ?_
       · rw [List.nil_append,show (P++D1)++y::x::(D2++(E++R))=((P++D1)++[y])++x::(D2++(E++R)) from by simp]
         exact z1K (by simp;omega)
       refine z6 (by omega) ?_
       refine rdI (m:=P.length+m-1) (x:=y) ar.2 (by simp;omega) (by omega) (z1K (by simp;omega)) ?_
       refine hc _ x y (ar.bump _).1 hxS hyS _ λc σ3 hcmp s3=>?_
       have ar:=(ar.bump _).same s3 ((ar.bump _).lt hb)
       refine To.go ?_
       refine ifD (λhlt=>?_) (λhge=>?_)
       · have hlt:=hcmp.1 hlt
         refine z6 (by omega) ?_
         refine z6 (by omega) ?_
         refine rdI (m:=P.length+m-1) (x:=y) ar.2 (by simp;omega) (by omega) (z1K (by simp;omega)) ?_
         refine rdI (m:=P.length+m) (x:=x) ar.2 (by simp;omega) (by omega) ?_ ?_
         · rw [List.nil_append,show (P++D1)++y::x::(D2++(E++R))=((P++D1)++[y])++x::(D2++(E++R)) from by simp]
           exact z1K (by simp;omega)
         refine wrI (m:=P.length+m) ar.2 (by simp;omega) (by omega) (by omega) ?_
         refine wrI (m:=P.length+m-1) gS' (by simp;omega) (by omega) (by omega) ?_
         rw [swap2' (by simp;omega) (by simp;omega)]
         refine z6 (by omega) ?_
         refine again ⟨m-1,⟨by omega,D1,y::D2,by rw [hD];simp,by omega,?_,?_⟩,by omega⟩
         · intro z hz
           rcases List.mem_cons.1 hz with rfl | hz
           · exact hlt
           · exact gt z hz
         · refine (((ar.bump _).put (Y:=_)).put.bump _).eq ?_
           simp
       · have hge:key y<=key x:=by
          have:=mt hcmp.2 hge
          omega
         refine ⟨D1++[y],D2,by rw [hD],λz hz=>?_,gt,ar.eq (by simp)⟩
         rw [hD] at oD
         have oD:=Srt.left oD
         rcases List.mem_append.1 hz with hz | hz
         · have:=Srt.rel oD z hz y (by simp)
           omega
         · rw [List.mem_singleton] at hz
           subst hz
           exact hge
     · obtain rfl:D1=[]:=List.length_eq_zero_iff.1 (by omega)
       exact ⟨[],D2,hD,λy h=>by simp at h,gt,ar.bump _⟩
   · rintro σ2 ⟨D1,D2,hD,le,gt,ar⟩
     unfold z0T
     refine z6 (by omega) ?_
     rw [hD] at sD oD
     refine again ⟨k+1,⟨by omega,by omega,λ_=>by omega,D0++[x],D1++x::D2,E,by rw [hA];simp,λ_=>by simp;omega,?_,?_,?_⟩,by omega⟩
     · refine (sD.append (Stb.refl [x])).trans ?_
       have t:Stb key (D1++(D2++[x])) (D1++([x]++D2)):=(Stb.refl D1).append (Stb.swap λy hy z hz=>by rw [List.mem_singleton] at hz;subst hz;exact gt y hy)
       simpa using t
     · refine oD.left.append ?_ λy hy z hz=>?_
       · exact List.pairwise_cons.2 ⟨λz hz=>Int.le_of_lt (gt z hz),oD.right⟩
       · rcases List.mem_cons.1 hz with rfl | hz
         · exact le y hy
         · exact oD.rel y hy z hz
     · exact (ar.bump _).eq (by simp)
 · by_cases hne:A=[]
   · subst hne
     obtain ⟨rfl,rfl⟩:D0=[]/\E=[]:=by simpa using hA.symm
     obtain rfl:D=[]:=List.length_eq_zero_iff.1 sD.1
     exact ⟨[],Stb.refl _,List.Pairwise.nil,ar.bump _⟩
   · have hD0:=hD0 hne
     have hAl:A.length=D0.length+E.length:=by rw [hA];simp
     obtain rfl:E=[]:=List.length_eq_zero_iff.1 (by omega)
     rw [hA,List.append_nil]
     exact ⟨D,sD,oD,ar.bump _⟩
end
section
section
variable {key:Int->Int}
theorem z30 {X L l R:List Int} (e:X=L++(l++R)) {i:Nat} (h1:L.length<=i) (h2:i<L.length+l.length):X.getD i 0=l[i-L.length]'(by omega):=by
 subst e
 rw [List.getD_eq_getElem?_getD,List.getElem?_append_right h1,List.getElem?_append_left (by omega),List.getElem?_eq_getElem (by omega)];rfl
theorem Srt.mono {X L l R:List Int} (h:Srt key l) (e:X=L++(l++R)) {i j:Nat} (h1:L.length<=i) (h2:i<=j) (h3:j<L.length+l.length):key (X.getD i 0)<=key (X.getD j 0):=by
 rw [z30 e h1 (by omega),z30 e (by omega) h3]
 rcases Nat.eq_or_lt_of_le h2 with rfl | h2
 · exact Int.le_refl _
 · exact List.pairwise_iff_getElem.1 h _ _ _ _ (by omega)
theorem z2N {X L l R:List Int} (e:X=L++(l++R)) {x:Int} (h:x∈l):∃ i,L.length<=i/\i<L.length+l.length/\X.getD i 0=x:=by
 obtain ⟨k,hk,rfl⟩:=List.mem_iff_getElem.1 h
 refine ⟨L.length+k,by omega,by omega,?_⟩
 rw [z30 e (by omega) (by omega)]
 congr 1
 omega
theorem zec {X L l R:List Int} (e:X=L++(l++R)) {i:Nat} (h1:L.length<=i) (h2:i<L.length+l.length):X.getD i 0∈l:=by
 rw [z30 e h1 h2]
 exact List.getElem_mem _
theorem z2W {X:List Int} {i:Nat} (h:i<X.length):X[i]? = some (X.getD i 0):=by rw [List.getD_eq_getElem?_getD,List.getElem?_eq_getElem h];rfl
end
theorem zbd {v:Int} {h:Nat} {K:Int->Prop} (e:v=h) (hb:h<=2^62) (hk:K (h / 2:Nat)):wrW .u64 v λx=>z4j (x / 2) λy=>iW y K:=by
 subst e
 refine To.go ?_
 show iW _ _
 rw [show ((h:Int) % 18446744073709551616 / 2)=((h / 2:Nat):Int) from by omega]
 exact z6 (by omega) hk
variable {b n:Nat} {c:Cap} {cmp:AV} {key:Int->Int} {S:Int->Prop}
theorem z2L:∀ (N:Nat) {σ:Mem} {X P A B R:List Int} {a1 a2 a3:Int},A.length+B.length<=N->X=P++(A++(B++R))->σ.get b=some (.rw (ic X))->b<σ.next->X.length=n->n<=2^60->a1=P.length->a2=(P.length+A.length:Nat)->a3=(P.length+A.length+B.length:Nat) ->
 0<A.length->0<B.length->Srt key A->Srt key B->(∀ x∈A,S x)->(∀ x∈B,S x)->Cmp σ b key S cmp ->
 z1 PG zb [.slice b 0 n c,.int .i64 a1,.int .i64 a2,.int .i64 a3,cmp] σ λ_ σ'=>∃ C,Stb key (A++B) C/\Srt key C/\Arr σ σ' b (P++(C++R)):=by
 intro N
 induction N with
 | zero=>intro σ X P A B R a1 a2 a3 hN _ _ _ _ _ _ _ _ hA;omega
 | succ N ih=>
 intro σ X P A B R a1 a2 a3 hN hX hg hb hn hl h1 h2 h3 hA hB oA oB hSA hSB hc
 refine z4Q λlive=>?_
 unfold z25
 have hlen:n=P.length+A.length+B.length+R.length:=by rw [<- hn,hX];simp only [List.length_append];omega
 have eA:X=P++(A++(B++R)):=hX
 have eB:X=(P++A)++(B++R):=by rw [hX];simp
 have lPA:(P++A).length=P.length+A.length:=List.length_append
 obtain ⟨a,ha⟩:∃ a,a=P.length:=⟨_,rfl⟩
 obtain ⟨m,hm⟩:∃ m,m=P.length+A.length:=⟨_,rfl⟩
 obtain ⟨d,hd⟩:∃ d,d=P.length+A.length+B.length:=⟨_,rfl⟩
 rw [<- ha] at h1
 rw [<- hm] at h2
 rw [<- hd] at h3
 subst h1 h2 h3
 have mA:∀ {i j:Nat},a<=i->i<=j->j<m->key (X.getD i 0)<=key (X.getD j 0):=λh1 h2 h3=>oA.mono eA (by omega) h2 (by omega)
 have mB:∀ {i j:Nat},m<=i->i<=j->j<d->key (X.getD i 0)<=key (X.getD j 0):=λh1 h2 h3=>oB.mono eB (by omega) h2 (by omega)
 have sA:∀ {i:Nat},a<=i->i<m->S (X.getD i 0):=λh1 h2=>hSA _ (zec eA (by omega) (by omega))
 have sB:∀ {i:Nat},m<=i->i<d->S (X.getD i 0):=λh1 h2=>hSB _ (zec eB (by omega) (by omega))
 have ar0:Arr σ σ b X:=Arr.self hg
 refine z6 (by omega) ?_
 refine ifD (λhone=>?_) (λhne=>?_)
 · -- one thing ahead
   obtain ⟨x,A',rfl⟩:=z2d A (by rintro rfl;simp at hA)
   obtain rfl:A'=[]:=List.length_eq_zero_iff.1 (by simp only [List.length_cons] at hm;omega)
   simp only [List.length_cons,List.length_nil] at hm hd hlen
   have hx:X.getD a 0=x:=by rw [z30 eA (by omega) (by simp;omega)];simp [ha]
   refine loop2 (λ(s:Nat) (i j:Int) σ'=>∃ i' j':Nat,i=i'/\j=j'/\m<=i'/\i'<=j'/\j'<=d/\s=j'-i'/\(∀ t,m<=t->t<i'->key (X.getD t 0)<key x)/\(∀ t,j'<=t->t<d->key x<=key (X.getD t 0))/\Arr σ σ' b X) (λs=>s) (d-m) ⟨m,d,rfl,rfl,by omega,by omega,by omega,rfl,λt h1 h2=>by omega,λt h1 h2=>by omega,ar0.bump _⟩ ?_
   rintro s _ _ σ1 ⟨i,j,rfl,rfl,hmi,hij,hjd,rfl,lo,hi,ar⟩
   unfold z1w
   refine ifD (λhlt=>?_) (λhge=>?_)
   · obtain ⟨h,hh⟩:∃ h,h=(i+j) / 2:=⟨_,rfl⟩
     refine z6 (by omega) ?_
     refine zbd (h:=i+j) (by omega) (by omega) ?_
     rw [<- hh]
     refine rdI (m:=h) ar.2 hn rfl (z2W (by omega)) ?_
     refine rdI (m:=a) ar.2 hn rfl (z2W (by omega)) ?_
     rw [hx]
     refine hc _ _ x (ar.bump _).1 (sB (by omega) (by omega)) (hSA _ (by simp)) _ λc σ2 hcmp s2=>?_
     have ar:=(ar.bump _).same s2 ((ar.bump _).lt hb)
     refine To.go ?_
     refine zu ?_
     unfold z1v
     refine ifD (λhlt=>?_) (λhge=>?_)
     · have hlt:=hcmp.1 hlt
       refine z6 (by omega) ?_
       refine again ⟨j-(h+1),⟨h+1,j,by omega,rfl,by omega,by omega,hjd,rfl,λt h1 h2=>?_,hi,ar.bump _⟩,by omega⟩
       have:=mB h1 (show t<=h by omega) (by omega)
       omega
     · have hge:key x<=key (X.getD h 0):=by have:=mt hcmp.2 hge;omega
       refine again ⟨h-i,⟨i,h,rfl,rfl,hmi,by omega,by omega,rfl,lo,λt h1 h2=>?_,ar.bump _⟩,by omega⟩
       have:=mB (show m<=h by omega) h1 h2
       omega
   · obtain rfl:i=j:=by omega
     obtain ⟨B1,B2,rfl,hB1⟩:=z2n B (k:=i-m) (by omega)
     simp only [List.length_append] at hd hlen hB
     have e1:X=(P++[x])++(B1++(B2++R)):=by rw [hX];simp
     have e2:X=(P++[x]++B1)++(B2++R):=by rw [hX];simp
     have l1:∀ y∈B1,key y<key x:=λy hy=>by
      obtain ⟨t,h1,h2,rfl⟩:=z2N e1 hy
      simp only [List.length_append,List.length_cons,List.length_nil] at h1 h2
      exact lo t (by omega) (by omega)
     have l2:∀ y∈B2,key x<=key y:=λy hy=>by
      obtain ⟨t,h1,h2,rfl⟩:=z2N e2 hy
      simp only [List.length_append,List.length_cons,List.length_nil] at h1 h2
      exact hi t (by omega) (by omega)
     refine loop1 (λ(s:Nat) (k:Int) σ'=>∃ B3 B4,B1=B3++B4/\s=B4.length/\k=(a+B3.length:Nat)/\Arr σ σ' b (P++(B3++x::(B4++(B2++R))))) (λs=>s) B1.length ⟨[],B1,rfl,rfl,by simp,(ar.bump _).eq (by rw [hX];simp)⟩ ?_
     rintro s _ σ2 ⟨B3,B4,rfl,rfl,rfl,ar⟩
     unfold z1y
     simp only [List.length_append] at hB1 hd hlen
     refine z6 (by omega) ?_
     refine ifD (λhlt=>?_) (λhge=>?_)
     · obtain ⟨y,B4,rfl⟩:=z2d B4 (by rintro rfl;simp only [List.length_nil] at hB1;omega)
       simp only [List.length_cons] at hB1 hd hlen ⊢
       have e:P++(B3++x::(y::B4++(B2++R)))=(P++B3)++x::([]++y::(B4++(B2++R))):=by simp
       rw [e] at ar
       refine z6 (by omega) ?_
       refine z6 (by omega) ?_
       refine rdI (m:=a+B3.length+1) (x:=y) ar.2 (by simp;omega) (by omega) ?_ ?_
       · rw [List.nil_append,show (P++B3)++x::y::(B4++(B2++R))=((P++B3)++[x])++y::(B4++(B2++R)) from by simp]
         exact z1K (by simp;omega)
       refine rdI (m:=a+B3.length) (x:=x) ar.2 (by simp;omega) (by omega) (z1K (by simp;omega)) ?_
       refine wrI (m:=a+B3.length) ar.2 (by simp;omega) (by omega) (by omega) ?_
       refine wrI (m:=a+B3.length+1) gS' (by simp;omega) (by omega) (by omega) ?_
       rw [swap2 (by simp;omega) (by simp)]
       refine z6 (by omega) ?_
       refine again ⟨B4.length,⟨B3++[y],B4,by simp,rfl,by simp;omega,?_⟩,by omega⟩
       refine (((ar.bump _).put (Y:=_)).put.bump _).eq ?_
       simp
     · obtain rfl:B4=[]:=List.length_eq_zero_iff.1 (by omega)
       rw [List.append_nil] at l1
       refine ⟨B3++x::B2,?_,?_,(ar.bump _).eq (by simp)⟩
       · have t:Stb key (([x]++B3)++B2) ((B3++[x])++B2):=(Stb.swap λy hy z hz=>by rw [List.mem_singleton] at hy;subst hy;exact l1 z hz).append (Stb.refl B2)
         simpa using t
       · rw [List.append_nil] at oB
         refine oB.left.append (List.pairwise_cons.2 ⟨l2,oB.right⟩) λy hy z hz=>?_
         rcases List.mem_cons.1 hz with rfl | hz
         · exact Int.le_of_lt (l1 y hy)
         · exact oB.rel y hy z hz
 refine z6 (by omega) ?_
 refine ifD (λhone=>?_) (λhne2=>?_)
 · -- one thing behind
   obtain ⟨x,B',rfl⟩:=z2d B (by rintro rfl;simp at hB)
   obtain rfl:B'=[]:=List.length_eq_zero_iff.1 (by simp only [List.length_cons] at hd;omega)
   simp only [List.length_cons,List.length_nil] at hm hd hlen
   have hx:X.getD m 0=x:=by rw [z30 eB (by omega) (by simp;omega)];simp [hm]
   refine loop2 (λ(s:Nat) (i j:Int) σ'=>∃ i' j':Nat,i=i'/\j=j'/\a<=i'/\i'<=j'/\j'<=m/\s=j'-i'/\(∀ t,a<=t->t<i'->key (X.getD t 0)<=key x)/\(∀ t,j'<=t->t<m->key x<key (X.getD t 0))/\Arr σ σ' b X) (λs=>s) (m-a) ⟨a,m,rfl,rfl,by omega,by omega,by omega,rfl,λt h1 h2=>by omega,λt h1 h2=>by omega,ar0.bump _⟩ ?_
   rintro s _ _ σ1 ⟨i,j,rfl,rfl,hmi,hij,hjd,rfl,lo,hi,ar⟩
   unfold z1u
   refine ifD (λhlt=>?_) (λhge=>?_)
   · obtain ⟨h,hh⟩:∃ h,h=(i+j) / 2:=⟨_,rfl⟩
     refine z6 (by omega) ?_
     refine zbd (h:=i+j) (by omega) (by omega) ?_
     rw [<- hh]
     refine rdI (m:=m) ar.2 hn rfl (z2W (by omega)) ?_
     refine rdI (m:=h) ar.2 hn rfl (z2W (by omega)) ?_
     rw [hx]
     refine hc _ x _ (ar.bump _).1 (hSB _ (by simp)) (sA (by omega) (by omega)) _ λc σ2 hcmp s2=>?_
     have ar:=(ar.bump _).same s2 ((ar.bump _).lt hb)
     refine To.go ?_
     refine zu ?_
     unfold z1z
     by_cases hlt:c<0
     · rw [decide_eq_true hlt]
       have hlt:=hcmp.1 hlt
       refine again ⟨h-i,⟨i,h,rfl,rfl,hmi,by omega,by omega,rfl,lo,λt h1 h2=>?_,ar.bump _⟩,by omega⟩
       have:=mA (show a<=h by omega) h1 h2
       omega
     · rw [decide_eq_false hlt]
       have hge:key (X.getD h 0)<=key x:=by have:=mt hcmp.2 hlt;omega
       refine z6 (by omega) ?_
       refine again ⟨j-(h+1),⟨h+1,j,by omega,rfl,by omega,by omega,hjd,rfl,λt h1 h2=>?_,hi,ar.bump _⟩,by omega⟩
       have:=mA h1 (show t<=h by omega) (by omega)
       omega
   · obtain rfl:i=j:=by omega
     obtain ⟨A1,A2,rfl,hA1⟩:=z2n A (k:=i-a) (by omega)
     simp only [List.length_append] at hm hd hlen hA
     have e1:X=P++(A1++(A2++(x::R))):=by rw [hX];simp
     have e2:X=(P++A1)++(A2++(x::R)):=by rw [hX];simp
     have l1:∀ y∈A1,key y<=key x:=λy hy=>by
      obtain ⟨t,h1,h2,rfl⟩:=z2N e1 hy
      exact lo t (by omega) (by omega)
     have l2:∀ y∈A2,key x<key y:=λy hy=>by
      obtain ⟨t,h1,h2,rfl⟩:=z2N e2 hy
      simp only [List.length_append] at h1 h2
      exact hi t (by omega) (by omega)
     refine loop1 (λ(s:Nat) (k:Int) σ'=>∃ A3 A4,A2=A3++A4/\s=A3.length/\k=(i+A3.length:Nat)/\Arr σ σ' b (P++(A1++(A3++x::(A4++R))))) (λs=>s) A2.length ⟨A2,[],by simp,rfl,by omega,(ar.bump _).eq (by rw [hX];simp)⟩ ?_
     rintro s _ σ2 ⟨A3,A4,rfl,rfl,rfl,ar⟩
     unfold z1E
     simp only [List.length_append] at hm hd hlen
     refine ifD (λhlt=>?_) (λhge=>?_)
     · obtain ⟨A3,y,rfl⟩:=z9d A3 (by rintro rfl;simp only [List.length_nil] at hlt;omega)
       simp only [List.length_append,List.length_cons,List.length_nil] at hm hd hlen ⊢
       have e:P++(A1++(A3++[y]++x::(A4++R)))=(P++A1++A3)++y::([]++x::(A4++R)):=by simp
       rw [e] at ar
       refine z6 (by omega) ?_
       refine z6 (by omega) ?_
       refine rdI (m:=i+A3.length) (x:=y) ar.2 (by simp;omega) (by omega) (z1K (by simp;omega)) ?_
       have hgx:((P++A1++A3)++y::([]++x::(A4++R)))[i+A3.length+1]? = some x:=by
        rw [List.nil_append,show (P++A1++A3)++y::x::(A4++R)=((P++A1++A3)++[y])++x::(A4++R) from by simp]
        exact z1K (by simp;omega)
       refine rdI (m:=i+A3.length+1) (x:=x) ar.2 (by simp;omega) (by omega) hgx ?_
       refine wrI (m:=i+A3.length+1) ar.2 (by simp;omega) (by omega) (by omega) ?_
       refine wrI (m:=i+A3.length) gS' (by simp;omega) (by omega) (by omega) ?_
       rw [swap2' (by simp;omega) (by simp)]
       refine z6 (by omega) ?_
       refine again ⟨A3.length,⟨A3,y::A4,by simp,rfl,by omega,?_⟩,by omega⟩
       refine (((ar.bump _).put (Y:=_)).put.bump _).eq ?_
       simp
     · obtain rfl:A3=[]:=List.length_eq_zero_iff.1 (by omega)
       rw [List.nil_append] at l2
       refine ⟨A1++x::A4,?_,?_,(ar.bump _).eq (by simp)⟩
       · have t:Stb key (A1++(A4++[x])) (A1++([x]++A4)):=(Stb.refl A1).append (Stb.swap λy hy z hz=>by rw [List.mem_singleton] at hz;subst hz;exact l2 y hy)
         simpa using t
       · rw [List.nil_append] at oA
         refine oA.left.append (List.pairwise_cons.2 ⟨λz hz=>Int.le_of_lt (l2 z hz),oA.right⟩) λy hy z hz=>?_
         rcases List.mem_cons.1 hz with rfl | hz
         · exact l1 y hy
         · exact oA.rel y hy z hz
 -- halves
 obtain ⟨q,hq⟩:∃ q,q=(a+d) / 2:=⟨_,rfl⟩
 refine z6 (by omega) ?_
 refine zbd (h:=a+d) (by omega) (by omega) ?_
 rw [<- hq]
 refine z6 (by omega) ?_
 refine join2 (λ(i j:Int) σ'=>∃ i' j':Nat,i=i'/\j=j'/\(q<m/\i'=q+m-d/\j'=q\/m<=q/\i'=a/\j'=m)/\Arr σ σ' b X) ?_ ?_
 · refine ifD (λhlt=>?_) (λhge=>?_)
   · refine z6 (by omega) ?_
     exact ⟨q+m-d,q,by omega,rfl,.inl ⟨by omega,rfl,rfl⟩,ar0.bump _⟩
   · exact ⟨a,m,rfl,rfl,.inr ⟨by omega,rfl,rfl⟩,ar0.bump _⟩
 rintro _ _ σ1 ⟨s0,r0,rfl,rfl,hsr,ar⟩
 unfold z1C
 refine z6 (by omega) ?_
 have hs0:a<=s0/\s0<=r0/\r0<=m/\r0<=q/\q+m<=s0+d:=by omega
 refine loop2 (λ(s:Nat) (i j:Int) σ'=>∃ i' j':Nat,i=i'/\j=j'/\s0<=i'/\i'<=j'/\j'<=r0/\s=j'-i'/\(∀ t,s0<=t->t<i'->key (X.getD t 0)<=key (X.getD (q+m-1-t) 0))/\(∀ t,j'<=t->t<r0->key (X.getD (q+m-1-t) 0)<key (X.getD t 0))/\Arr σ σ' b X) (λs=>s) (r0-s0) ⟨s0,r0,rfl,rfl,by omega,by omega,by omega,rfl,λt h1 h2=>by omega,λt h1 h2=>by omega,ar.bump _⟩ ?_
 clear ar
 rintro s _ _ σ2 ⟨i,j,rfl,rfl,hmi,hij,hjd,rfl,lo,hi,ar⟩
 unfold z1A
 refine ifD (λhlt=>?_) (λhge=>?_)
 · obtain ⟨h,hh⟩:∃ h,h=(i+j) / 2:=⟨_,rfl⟩
   refine z6 (by omega) ?_
   refine zbd (h:=i+j) (by omega) (by omega) ?_
   rw [<- hh]
   refine z6 (by omega) ?_
   refine rdI (m:=q+m-1-h) ar.2 hn (by omega) (z2W (by omega)) ?_
   refine rdI (m:=h) ar.2 hn rfl (z2W (by omega)) ?_
   refine hc _ _ _ (ar.bump _).1 (sB (by omega) (by omega)) (sA (by omega) (by omega)) _ λc σ2 hcmp s2=>?_
   have ar:=(ar.bump _).same s2 ((ar.bump _).lt hb)
   refine To.go ?_
   refine zu ?_
   unfold z1F
   by_cases hlt:c<0
   · rw [decide_eq_true hlt]
     have hlt:=hcmp.1 hlt
     refine again ⟨h-i,⟨i,h,rfl,rfl,hmi,by omega,by omega,rfl,lo,λt h1 h2=>?_,ar.bump _⟩,by omega⟩
     have:=mA (show a<=h by omega) h1 (by omega)
     have:=mB (show m<=q+m-1-t by omega) (show q+m-1-t<=q+m-1-h by omega) (by omega)
     omega
   · rw [decide_eq_false hlt]
     have hge:key (X.getD h 0)<=key (X.getD (q+m-1-h) 0):=by have:=mt hcmp.2 hlt;omega
     refine z6 (by omega) ?_
     refine again ⟨j-(h+1),⟨h+1,j,by omega,rfl,by omega,by omega,hjd,rfl,λt h1 h2=>?_,hi,ar.bump _⟩,by omega⟩
     have:=mA (show a<=t by omega) (show t<=h by omega) (by omega)
     have:=mB (show m<=q+m-1-h by omega) (show q+m-1-h<=q+m-1-t by omega) (by omega)
     omega
 obtain rfl:i=j:=by omega
 obtain ⟨A1,A2,rfl,hA1⟩:=z2n A (k:=i-a) (by omega)
 obtain ⟨B1,B2,rfl,hB1⟩:=z2n B (k:=q-i) (by omega)
 simp only [List.length_append] at hm hd hlen hN
 have f1:X=P++(A1++(A2++(B1++(B2++R)))):=by rw [hX];simp
 have f2:X=(P++A1)++(A2++(B1++(B2++R))):=by rw [hX];simp
 have f3:X=(P++A1++A2)++(B1++(B2++R)):=by rw [hX];simp
 have f4:X=(P++A1++A2++B1)++(B2++R):=by rw [hX];simp
 have h12:∀ x∈A1,∀ y∈B2,key x<=key y:=by
  intro x hx y hy
  obtain ⟨t,h1,h2,rfl⟩:=z2N f1 hx
  obtain ⟨u,h3,h4,rfl⟩:=z2N f4 hy
  simp only [List.length_append] at h3 h4
  have g1:=mA (show a<=t by omega) (show t<=i-1 by omega) (by omega)
  have g2:=lo (i-1) (by omega) (by omega)
  have g3:=mB (show m<=q+m-1-(i-1) by omega) (show q+m-1-(i-1)<=u by omega) (by omega)
  omega
 have h21:∀ x∈A2,∀ y∈B1,key y<key x:=by
  intro x hx y hy
  obtain ⟨t,h1,h2,rfl⟩:=z2N f2 hx
  obtain ⟨u,h3,h4,rfl⟩:=z2N f3 hy
  simp only [List.length_append] at h1 h2 h3 h4
  have g1:=mA (show a<=i by omega) (show i<=t by omega) (by omega)
  have g2:=hi i (by omega) (by omega)
  have g3:=mB (show m<=u by omega) (show u<=q+m-1-i by omega) (by omega)
  omega
 obtain ⟨e,he⟩:∃ e,e=q+m-i:=⟨_,rfl⟩
 have right:∀ L σ',Stb key (A1++B1) L->Srt key L->Arr σ σ' b (P++(L++(A2++(B2++R))))->z0f (.slice b 0 n c) d cmp (λ_ σ'=>∃ C,Stb key ((A1++A2)++(B1++B2)) C/\Srt key C/\Arr σ σ' b (P++(C++R))) q e σ':=by
  intro L σ' sL oL ar
  have hL:=sL.1
  simp only [List.length_append] at hL
  have fin:∀ R' σ'',Stb key (A2++B2) R'->Srt key R'->Arr σ σ'' b (P++(L++(R'++R)))->∃ C,Stb key ((A1++A2)++(B1++B2)) C/\Srt key C/\Arr σ σ'' b (P++(C++R)):=by
   intro R' σ'' sR oR ar
   obtain ⟨g1,g2⟩:=zcq oA oB h12 h21 sL oL sR oR
   exact ⟨L++R',g2,g1,ar.eq (by simp)⟩
  unfold z0f
  refine ifD (λhlt=>?_) (λhge=>?_)
  · refine zu ?_
    unfold z1B
    refine ifD (λhlt2=>?_) (λhge2=>?_)
    · refine z0 (ih (P:=P++L) (A:=A2) (B:=B2) (R:=R) (by omega) rfl (by rw [Mem.get_bump,ar.2];simp) ((ar.bump _).lt hb) (by simp;omega) hl (by simp;omega) (by simp;omega) (by simp;omega) (by omega) (by omega) oA.right oB.right (λx hx=>hSA x (by simp [hx])) (λx hx=>hSB x (by simp [hx])) (hc.of (ar.bump _).1)) ?_
      rintro v σ3 ⟨C,sC,oC,aC⟩
      exact fin C σ3 sC oC (((ar.bump _).trans aC).eq (by simp))
    · obtain rfl:B2=[]:=List.length_eq_zero_iff.1 (by omega)
      exact fin A2 _ (by simpa using Stb.refl A2) oA.right (ar.bump _)
  · refine zu ?_
    unfold z1x
    obtain rfl:A2=[]:=List.length_eq_zero_iff.1 (by omega)
    exact fin B2 _ (by simpa using Stb.refl B2) oB.right (ar.bump _)
 have left:∀ σ',Arr σ σ' b (P++(A1++(B1++(A2++(B2++R)))))->z0g (.slice b 0 n c) a d cmp (λ_ σ'=>∃ C,Stb key ((A1++A2)++(B1++B2)) C/\Srt key C/\Arr σ σ' b (P++(C++R))) q i e σ':=by
  intro σ' ar
  unfold z0g
  refine ifD (λhlt=>?_) (λhge=>?_)
  · refine zu ?_
    refine ifD (λhlt2=>?_) (λhge2=>?_)
    · refine z0 (ih (P:=P) (A:=A1) (B:=B1) (R:=A2++(B2++R)) (by omega) rfl (by rw [Mem.get_bump,ar.2]) ((ar.bump _).lt hb) (by simp;omega) hl (by omega) (by omega) (by omega) (by omega) (by omega) oA.left oB.left (λx hx=>hSA x (by simp [hx])) (λx hx=>hSB x (by simp [hx])) (hc.of (ar.bump _).1)) ?_
      rintro v σ3 ⟨C,sC,oC,aC⟩
      exact right C σ3 sC oC ((ar.bump _).trans aC)
    · obtain rfl:B1=[]:=List.length_eq_zero_iff.1 (by omega)
      exact right A1 _ (by simpa using Stb.refl A1) oA.left (ar.bump _)
  · refine zu ?_
    obtain rfl:A1=[]:=List.length_eq_zero_iff.1 (by omega)
    exact right B1 _ (by simpa using Stb.refl B1) oB.left (ar.bump _)
 refine z6 (by omega) ?_
 rw [show ((q:Int)+m-i)=(e:Nat) from by omega]
 refine ifD (λhlt=>?_) (λhge=>?_)
 · refine zu ?_
   refine ifD (λhlt2=>?_) (λhge2=>?_)
   · refine z0 (z7M (P:=P++A1) (U:=A2) (V:=B1) (R:=B2++R) rfl (by rw [Mem.get_bump,ar.2,f1];simp) (by simp;omega) hl (by simp;omega) (by simp;omega) (by simp;omega) (by omega) (by omega)) ?_
     intro v σ3 a3
     exact left σ3 (((ar.bump _).trans a3).eq (by simp))
   · obtain rfl:B1=[]:=List.length_eq_zero_iff.1 (by omega)
     exact left _ ((ar.bump _).eq (by rw [f1];simp))
 · refine zu ?_
   obtain rfl:A2=[]:=List.length_eq_zero_iff.1 (by omega)
   exact left _ ((ar.bump _).eq (by rw [f1];simp))
end
section
variable {b n:Nat} {c:Cap} {cmp:AV} {key:Int->Int} {S:Int->Prop}
def Rows (key:Int->Int) (k:Nat) (D:List (List Int)):Prop:=∀ l∈D,l.length=k/\Srt key l
theorem Rows.snoc {k:Nat} {D:List (List Int)} {l:List Int} (h:Rows key k D) (h1:l.length=k) (h2:Srt key l):Rows key k (D++[l]):=by
 intro x hx
 rcases List.mem_append.1 hx with hx | hx
 · exact h x hx
 · rw [List.mem_singleton] at hx;subst hx;exact ⟨h1,h2⟩
theorem Rows.len {k:Nat}:∀ {D:List (List Int)},Rows key k D->D.flatten.length=D.length*k
 | [],_=>by simp
 | l::D,h=>by
   rw [List.flatten_cons,List.length_append,(h l (by simp)).1,Rows.len (D:=D) λx hx=>h x (List.mem_cons_of_mem _ hx),List.length_cons,Nat.add_mul]
   omega
theorem z7F {σ:Mem} {X:List Int} (hg:σ.get b=some (.rw (ic X))) (hb:b<σ.next) (hn:X.length=n) (hl:n<=2^58) (hS:∀ x∈X,S x) (hc:Cmp σ b key S cmp) :
 z1 PG z1f [.slice b 0 n c,.int .i64 (n:Nat),cmp] σ λ_ σ'=>∃ C,Stb key X C/\Srt key C/\Arr σ σ' b C:=by
 refine z2s λlive=>?_
 unfold z16
 -- the first rows
 refine loop2 (λ(a:Nat) (i j:Int) σ'=>i=a/\j=(a+20:Nat)/\a<=n/\∃ X0 E D,X=X0++E/\Rows key 20 D/\Stb key X0 D.flatten/\a=X0.length/\Arr σ σ' b (D.flatten++E)) (λa=>n-a) 0 ⟨rfl,by omega,by omega,[],X,[],rfl,λl h=>by simp at h,Stb.refl _,rfl,(Arr.self hg).bump _⟩ ?_
 rintro a _ _ σ1 ⟨rfl,rfl,ha,X0,E,D,rfl,rD,sD,hX0,ar⟩
 unfold z0r
 have hDl:=sD.1
 rw [List.length_append] at hn
 refine ifD (λhle=>?_) (λhgt=>?_)
 · obtain ⟨A,E,rfl,hA⟩:=z2n E (k:=20) (by omega)
   rw [List.length_append] at hn
   refine z0 (z0S (S:=S) (P:=D.flatten) (A:=A) (R:=E) rfl (by rw [Mem.get_bump,ar.2]) ((ar.bump _).lt hb) (by simp [-List.length_flatten];omega) (by omega) (by omega) (by omega) (λx hx=>hS x (by simp [hx])) (hc.of (ar.bump _).1)) ?_
   rintro v σ2 ⟨C,sC,oC,aC⟩
   refine z6 (by omega) ?_
   refine again ⟨a+20,⟨by omega,by omega,by omega,X0++A,E,D++[C],by simp,rD.snoc (by rw [sC.1];exact hA) oC,?_,by simp [-List.length_flatten];omega,?_⟩,by omega⟩
   · rw [List.flatten_append]
     exact sD.append (by simpa using sC)
   · exact (((ar.bump _).trans aC).bump _).eq (by simp)
 · refine z0 (z0S (S:=S) (P:=D.flatten) (A:=E) (R:=[]) rfl (by rw [Mem.get_bump,ar.2];simp) ((ar.bump _).lt hb) (by simp [-List.length_flatten];omega) (by omega) (by omega) (by omega) (λx hx=>hS x (by simp [hx])) (hc.of (ar.bump _).1)) ?_
   rintro v σ2 ⟨C,sC,oC,aC⟩
   have ar:=((ar.bump _).trans aC).eq (Y:=D.flatten++C) (by simp)
   have hCl:=sC.1
   -- greater and greater rows
   refine loop1 (λ(m:Nat) (x:Int) σ'=>∃ k D T,x=(k:Nat)/\20<=k/\k<=2^59/\m=n-k/\Rows key k D/\T.length<k/\Srt key T/\Stb key (X0++E) (D.flatten++T)/\Arr σ σ' b (D.flatten++T)) (λm=>m) (n-20) ⟨20,D,C,rfl,by omega,by omega,rfl,rD,by omega,oC,sD.append sC,ar⟩ ?_
   clear rD sD hDl ar sC oC aC hCl
   rintro _ _ σ3 ⟨k,D,T,rfl,hk,hk2,rfl,rD,hT,oT,sD,ar⟩
   unfold z0p
   have hl1:=rD.len
   have hl2:=sD.1
   rw [List.length_append,List.length_append] at hl2
   refine ifD (λhlt=>?_) (λhge=>?_)
   · refine z6 (by omega) ?_
     refine loop2 (λ(m:Nat) (i j:Int) σ'=>∃ (a:Nat) (D1 D2:List (List Int)),i=a/\j=(a+2*k:Nat)/\m=D2.length/\Rows key (2*k) D1/\Rows key k D2/\D1.flatten.length=a/\a+D2.flatten.length+T.length=n/\Stb key (X0++E) (D1.flatten++(D2.flatten++T))/\Arr σ σ' b (D1.flatten++(D2.flatten++T))) (λm=>m) D.length ⟨0,[],D,rfl,by omega,rfl,λl h=>by simp at h,rD,rfl,by omega,sD,ar.bump _⟩ ?_
     clear sD ar
     rintro _ _ _ σ4 ⟨a,D1,D2,rfl,rfl,rfl,r1,r2,la,ln,sD,ar⟩
     unfold z1S
     have hl3:=r2.len
     have hSD:∀ x∈D1.flatten++(D2.flatten++T),S x:=λx hx=>hS x ((sD.mem x).1 hx)
     refine ifD (λhle=>?_) (λhgt=>?_)
     · -- two rows
       match D2,hl3 with
       | [],hl3=>simp at ln;omega
       | [A],hl3=>simp at hl3;simp at ln;omega
       | A::B::D2,hl3=>
       have hA:=r2 A (by simp)
       have hB:=r2 B (by simp)
       simp only [List.flatten_cons,List.length_append,List.length_cons] at ln hl3
       refine z6 (by omega) ?_
       refine z0 (z2L (S:=S) _ (P:=D1.flatten) (A:=A) (B:=B) (R:=D2.flatten++T) (Nat.le_refl _) rfl (by rw [Mem.get_bump,ar.2];simp) ((ar.bump _).lt hb) (by simp [-List.length_flatten];omega) (by omega) (by omega) (by omega) (by omega) (by omega) (by omega) hA.2 hB.2 (λx hx=>hSD x (by simp [hx])) (λx hx=>hSD x (by simp [hx])) (hc.of (ar.bump _).1)) ?_
       rintro v σ5 ⟨C,sC,oC,aC⟩
       have hCl:=sC.1
       rw [List.length_append] at hCl
       refine z6 (by omega) ?_
       refine z6 (by omega) ?_
       refine again ⟨D2.length,⟨a+2*k,D1++[C],D2,by omega,by omega,rfl,r1.snoc (by omega) oC,λl hl=>r2 l (by simp [hl]),by simp [-List.length_flatten];omega,by omega,?_,?_⟩,by simp only [List.length_cons];omega⟩
       · refine sD.trans ?_
         have t:Stb key (D1.flatten++((A++B)++(D2.flatten++T))) (D1.flatten++(C++(D2.flatten++T))):=(Stb.refl _).append (sC.append (Stb.refl _))
         simpa using t
       · exact (((ar.bump _).trans aC).bump _).eq (by simp)
     · refine z6 (by omega) ?_
       refine join0 (λσ'=>∃ D T,Rows key (2*k) D/\T.length<2*k/\Srt key T/\Stb key (X0++E) (D.flatten++T)/\Arr σ σ' b (D.flatten++T)) ?_ ?_
       · match D2,hl3 with
         | [],hl3=>
           simp at ln
           refine ifD (λh=>absurd h (by omega)) (λ_=>?_)
           exact ⟨D1,T,r1,by omega,oT,by simpa using sD,(ar.bump _).eq (by simp)⟩
         | [A],hl3=>
           have hA:=r2 A (by simp)
           simp only [List.flatten_cons,List.length_append,List.flatten_nil,List.length_nil] at ln
           refine ifD (λh=>?_) (λh=>?_)
           · refine z0 (z2L (S:=S) _ (P:=D1.flatten) (A:=A) (B:=T) (R:=[]) (Nat.le_refl _) rfl (by rw [Mem.get_bump,ar.2];simp) ((ar.bump _).lt hb) (by simp [-List.length_flatten];omega) (by omega) (by omega) (by omega) (by omega) (by omega) (by omega) hA.2 oT (λx hx=>hSD x (by simp [hx])) (λx hx=>hSD x (by simp [hx])) (hc.of (ar.bump _).1)) ?_
             rintro v σ5 ⟨C,sC,oC,aC⟩
             have hCl:=sC.1
             rw [List.length_append] at hCl
             refine ⟨D1,C,r1,by omega,oC,sD.trans ?_,((ar.bump _).trans aC).eq (by simp)⟩
             have t:Stb key (D1.flatten++(A++T)) (D1.flatten++C):=(Stb.refl _).append sC
             simpa using t
           · obtain rfl:T=[]:=List.length_eq_zero_iff.1 (by omega)
             refine ⟨D1,A,r1,by omega,hA.2,by simpa using sD,(ar.bump _).eq (by simp)⟩
         | A::B::D2,hl3=>
           have hA:=r2 A (by simp)
           have hB:=r2 B (by simp)
           simp only [List.flatten_cons,List.length_append,List.length_cons] at ln
           omega
       · rintro σ5 ⟨D,T,rD,hT,oT,sD,ar⟩
         unfold z1R
         refine z6 (by omega) ?_
         exact again ⟨n-2*k,⟨2*k,D,T,by omega,by omega,by omega,rfl,rD,hT,oT,sD,ar.bump _⟩,by omega⟩
   · match D,hl1 with
     | [],hl1=>exact ⟨T,by simpa using sD,oT,(ar.bump _).eq (by simp)⟩
     | [A],hl1=>
       simp at hl1 hl2
       obtain rfl:T=[]:=List.length_eq_zero_iff.1 (by omega)
       exact ⟨A,by simpa using sD,(rD A (by simp)).2,(ar.bump _).eq (by simp)⟩
     | A::B::D,hl1=>
       have hA:=rD A (by simp)
       have hB:=rD B (by simp)
       simp only [List.flatten_cons,List.length_append,List.length_cons] at hl2
       omega
theorem slices_SortStable {σ:Mem} {X:List Int} (hg:σ.get b=some (.rw (ic X))) (hb:b<σ.next) (hn:X.length=n) (hl:n<=2^58) (hS:∀ x∈X,S x) (hc:Cmp σ b key S cmp) :
 z1 PG zs [.slice b 0 n c,cmp] σ λ_ σ'=>∃ C,Stb key X C/\Srt key C/\Arr σ σ' b C:=by
 refine z18 λlive=>?_
 unfold z01
 show z5 _ _ _ _ _
 refine z0 (z7F (σ:=σ.bump 5) (S:=S) (key:=key) hg (Nat.lt_of_lt_of_le hb (by rw [Mem.next_bump];omega)) hn hl hS (hc.of (Arr.bump (Arr.self hg) 5).1)) ?_
 rintro v σ1 ⟨C,h1,h2,h3⟩
 exact ⟨C,h1,h2,(Arr.bump (Arr.self hg) 5).trans h3⟩
end
section
theorem zaE (x:Int) (σ:Mem):z1 PG z3C [.int .i64 x] σ λv σ'=>v=.bool false/\σ.Same σ':=by
 refine zc3 λlive=>?_
 unfold z89
 exact ⟨by simp,(Mem.Same.refl σ).bump _⟩
theorem z8q (x y:Int) (σ:Mem):z1 PG z2u [.int .i64 x,.int .i64 y] σ λv σ'=>∃ c,v=.int .i64 c/\(c<0↔x<y)/\σ.Same σ':=by
 refine zac λlive=>?_
 unfold z6q
 refine z0 (zaE _ _) ?_
 rintro _ σ1 ⟨rfl,s1⟩
 replace s1:=s1.ob
 refine To.go ?_
 refine z0 (zaE _ _) ?_
 rintro _ σ2 ⟨rfl,s2⟩
 replace s2:=s2.ob
 have s:=s1.trans s2
 refine To.go ?_
 repeat (refine To.go ?_)
 refine ifD (λh=>?_) (λh=>?_)
 · exact ⟨_,rfl,⟨λ_=>h,λ_=>by omega⟩,s.bump _⟩
 refine ifD (λh=>?_) (λh=>?_)
 · exact ⟨_,rfl,⟨λ_=>by omega,λ_=>by omega⟩,s.bump _⟩
 · exact ⟨_,rfl,⟨λ_=>by omega,λ_=>by omega⟩,s.bump _⟩
theorem znG {b pb:Nat} {a:AV} {L:List Int} {σ0:Mem} (hp:σ0.get pb=some (.rw [a])) (hpb:pb<σ0.next) (hne:pb≠b) (ha:RdO 1 σ0 a (ic L) L.length) (hla:∀ x∈z3 a,x<σ0.next/\x≠b) (hl:L.length<=2^58):Cmp σ0 b (lkey L) (λx=>∃ j:Nat,x=j/\j<L.length) (.func z7J [.ptr pb 0]):=by
 rintro σ _ _ o ⟨i,rfl,hi⟩ ⟨j,rfl,hj⟩ K hK
 have hp':σ.get pb=some (.rw [a]):=(o.get pb hpb (by simpa using hne)).trans hp
 have ha':RdO 1 σ a (ic L) L.length:=ha.keep λx hx=>o.get x (hla x hx).1 (by simpa using (hla x hx).2)
 refine z8E (Q:=λv σ'=>∃ c,v=.int .i64 c/\(c<0↔lkey L i<lkey L j)/\σ.Same σ') ?_ ?_
 · refine zeS λlive=>?_
   unfold zaT
   refine ldrw (l:=[a]) hp' rfl ?_
   obtain ⟨bk,bkz,c,rfl,hget⟩:=ha'.at hi
   have hget2:∀ (n:Nat) {K:AV->Prop},K (.int .i64 L[j])->ldW (σ.bump n) (.ptr bk (bkz+j)) K:=by
    intro n K hK
    obtain ⟨bk',bk'z,c',e,hget'⟩:=ha'.at hj
    injection e with e1 e2
    subst e1 e2
    exact hget' n hK
   refine To.go ?_
   refine And.intro (by omega) ?_
   refine To.go ?_
   refine hget _ ?_
   refine To.go ?_
   refine ldrw (l:=[_]) hp' rfl ?_
   refine To.go ?_
   refine And.intro (by omega) ?_
   refine To.go ?_
   refine hget2 _ ?_
   refine To.go ?_
   refine z0 (z8q _ _ _) ?_
   rintro _ σ1 ⟨c,rfl,hc,s1⟩
   refine To.go ?_
   refine ⟨c,rfl,?_,s1.ob⟩
   rw [hc]
   unfold lkey
   rw [Int.toNat_natCast,Int.toNat_natCast,zA hi,zA hj]
 · rintro _ σ' ⟨c,rfl,h1,h2⟩
   exact hK c σ' h1 h2
theorem zbP {a:AV} {L:List Int} {σ:Mem} (ha:RdO 1 σ a (ic L) L.length) (hl:L.length<=2^44):z1 PG z1r [a] σ λv σ'=>RdO 1 σ' v (ic L) L.length/\σ.Same σ'/\(∀ b∈z3 v,σ.next<=b/\b<σ'.next)/\v.one=true:=by
 refine z6j λlive=>?_
 have hla:=ha.lt live
 have ha0:=ha
 unfold z3p
 rcases ha with ⟨rfl,h0,h1⟩ | ⟨b,z,c,rfl,hlen,hq⟩
 · repeat (refine To.go ?_)
   refine ⟨.inl ⟨rfl,h0,h1⟩,(Mem.Same.refl σ).bump _,λb hb=>by simp [z3] at hb,rfl⟩
 · repeat (refine To.go ?_)
   refine zgY gS' (n:=L.length) (cs:=ic L) (ha0.keep λb' hb'=>?_) (z3s _) (by omega) (λh0=>?_) (λh0=>?_)
   · have:=hla b' hb'
     rw [Mem.get_put_ne _ (by omega),Mem.get_bump]
   · refine ⟨.mk (by rw [h0]) ⟨_,gS',by rw [List.length_eq_zero_iff.1 h0];rfl⟩ (by rw [List.length_eq_zero_iff.1 h0];simp [ic]),by repeat (with_reducible first | exact Mem.Same.refl _ | refine Mem.Same.bump ?_ _ | refine Mem.Same.put ?_ (by omega) _),?_,rfl⟩
     intro b hb
     simp only [z3,List.mem_singleton] at hb
     simp only [Mem.next_put,Mem.next_bump];omega
   · refine ⟨.mk rfl ⟨_,gS',rfl⟩ (by rw [z0j,Nat.mul_one]),by repeat (with_reducible first | exact Mem.Same.refl _ | refine Mem.Same.bump ?_ _ | refine Mem.Same.put ?_ (by omega) _),?_,rfl⟩
     intro b hb
     simp only [z3,List.mem_singleton] at hb
     simp only [Mem.next_put,Mem.next_bump];omega
end
section
theorem z3t {v:AV} (h:v.one=true):v.cells=[v]:=by cases v<;>first | rfl | exact Bool.noConfusion h
theorem RdO.one {k n:Nat} {σ:Mem} {v:AV} {cs:List AV} (h:RdO k σ v cs n):v.one=true:=by
 rcases h with ⟨rfl,_⟩ | ⟨b,z,c,rfl,_⟩<;>rfl
theorem zg4 {v:AV} {X:Prop} (h:v.one=true) (hx:X):zfU v X:=by cases v<;>first | exact Bool.noConfusion h | exact hx
theorem z1Y {v:AV} {X:Prop} (h:v.one=true) (hx:X):zG v 1 X:=by cases v<;>first | exact Bool.noConfusion h | exact hx
theorem zik {l:List AV} {n:Nat} {X:Prop} (h:l.length=n) (h1:l.all AV.one=true) (hx:X):zG (.agg l) n X:=⟨⟨h,h1⟩,hx⟩
theorem zge {l:List AV} {X:Prop} (h:l.all AV.one=true) (hx:X):zfU (.agg l) X:=⟨h,hx⟩
theorem RdO.same {k n:Nat} {σ σ':Mem} {v:AV} {cs:List AV} (h:RdO k σ v cs n) (s:σ.Same σ') (hb:∀ b∈z3 v,b<σ.next):RdO k σ' v cs n:=h.keep λb h=>s.get b (hb b h)
theorem z6Y {σ:Mem} {cmp:AV}:z1 PG zr [.nils,.int .i64 0,.int .i64 0,cmp] σ λ_ σ'=>σ.Same σ':=by
 refine z13 λlive=>?_
 unfold z00
 refine z6 (by omega) ?_
 refine loop1 (λ(_:Nat) (x:Int) σ'=>x=1/\σ.Same σ') (λs=>s) 0 ⟨rfl,(Mem.Same.refl σ).bump _⟩ ?_
 rintro _ _ σ1 ⟨rfl,s1⟩
 unfold zQ
 refine ifD (λh=>absurd h (by omega)) (λ_=>?_)
 exact s1.bump _
theorem z94 {σ:Mem} {cmp:AV}:z1 PG zs [.nils,cmp] σ λ_ σ'=>σ.Same σ':=by
 refine z18 λlive=>?_
 unfold z01
 show z5 _ _ _ _ _
 refine z0 (Q:=λ_ σ'=>σ.Same σ') ?_ λ_ _ h=>h
 refine z2s λlive=>?_
 unfold z16
 refine loop2 (λ(_:Nat) (x y:Int) σ'=>x=0/\y=20/\σ.Same σ') (λs=>s) 0 ⟨rfl,rfl,((Mem.Same.refl σ).bump _).bump _⟩ ?_
 rintro _ _ _ σ1 ⟨rfl,rfl,s1⟩
 unfold z0r
 refine ifD (λh=>absurd h (by omega)) (λ_=>?_)
 refine z0 z6Y ?_
 rintro _ σ2 s2
 refine loop1 (λ(_:Nat) (x:Int) σ'=>x=20/\σ.Same σ') (λs=>s) 0 ⟨rfl,s1.trans s2.ob⟩ ?_
 rintro _ _ σ3 ⟨rfl,s3⟩
 unfold z0p
 refine ifD (λh=>absurd h (by omega)) (λ_=>?_)
 exact s3.bump _
theorem zoa {σ:Mem} {s cmp:AV} {X:List Int} {key:Int->Int} {S:Int->Prop} (own:z1Q 1 σ s (ic X) X.length) (hb:∀ b∈z3 s,b<σ.next) (hl:X.length<=2^58) (hS:∀ x∈X,S x) (hc:∀ b∈z3 s,Cmp σ b key S cmp) :
 z1 PG zs [s,cmp] σ λ_ σ'=>∃ C,Stb key X C/\Srt key C/\z1Q 1 σ' s (ic C) X.length/\Mem.Only (z3 s) σ σ':=by
 rcases own with ⟨rfl,h0,h1⟩ | ⟨b,rfl,hg,hlen⟩
 · obtain rfl:X=[]:=List.length_eq_zero_iff.1 h0
   refine z94.mono ?_
   rintro _ σ' s'
   exact ⟨[],Stb.refl _,List.Pairwise.nil,.inl ⟨rfl,rfl,rfl⟩,⟨s'.next,λb h _=>s'.get b h⟩⟩
 · refine (slices_SortStable hg (hb b (by simp [z3])) rfl hl hS (hc b (by simp [z3]))).mono ?_
   rintro _ σ' ⟨C,h1,h2,h3⟩
   exact ⟨C,h1,h2,.inr ⟨b,rfl,h3.2,by rw [z0j,h1.1,Nat.mul_one]⟩,h3.1⟩
def zey (l c:AV) (L:List Int) (s:AV) (n:Int):List AV:=[l,c]++cA L++[s,.int .i64 n]
def zgB (L:List Int):Int:=if many L<2 then (many L:Nat) else 15
def Tab (lo:Nat) (L:List Int) (σ:Mem) (r:Nat):Prop:=
 ∃ l c s T,σ.get r=some (.rw (zey l c L s (zgB L)))/\RdO 1 σ l (ic L) L.length/\RdO 1 σ c (ic (codes L)) L.length/\RdO 1 σ s (ic T) T.length/\Stb (lkey L) (syms L L.length) T/\Srt (lkey L) T/\(lo<=r/\r<σ.next)/\(∀ b∈z3 l,lo<=b/\b<σ.next)/\(∀ b∈z3 c,lo<=b/\b<σ.next)/\(∀ b∈z3 s,lo<=b/\b<σ.next)
theorem Tab.keep {lo hi:Nat} {L:List Int} {σ σ':Mem} {r:Nat} (h:Tab lo L σ r) (hn:σ.next<=hi) (hg:∀ b,lo<=b->b<hi->σ'.get b=σ.get b) (hs:σ.next<=σ'.next):Tab lo L σ' r:=by
 obtain ⟨l,c,s,T,h1,h2,h3,h4,h5,h6,h7,h8,h9,h10⟩:=h
 refine ⟨l,c,s,T,(hg r h7.1 (by omega)).trans h1,h2.keep λb hb=>hg b (h8 b hb).1 ?_,h3.keep λb hb=>hg b (h9 b hb).1 ?_,h4.keep λb hb=>hg b (h10 b hb).1 ?_,h5,h6,by omega,λb hb=>?_,λb hb=>?_,λb hb=>?_⟩
 · have:=h8 b hb;omega
 · have:=h9 b hb;omega
 · have:=h10 b hb;omega
 · have:=h8 b hb;omega
 · have:=h9 b hb;omega
 · have:=h10 b hb;omega
def zpX (L:List Int) (σ σ':Mem) (v:AV):Prop:=
 ∃ p,v=.tup [p,.int .i64 (chk L)]/\(chk L≠0->p=.nilp)/\(chk L=0->lens L/\∃ r,p=.ptr r 0/\Tab σ.next L σ' r)/\σ.Same σ'
theorem zof {l c s:AV} {L:List Int} {n:Int} (h1:l.one=true) (h2:c.one=true) (h3:s.one=true):(zey l c L s n).all AV.one=true:=by
 unfold zey
 simp only [List.all_append,List.all_cons,List.all_nil,h1,h2,h3,Bool.and_true,Bool.true_and]
 have h:(cA L).all AV.one=true:=z3s _
 rw [h];rfl
theorem znH (l c s s':AV) (L:List Int) (n:Int):(zey l c L s n).set 18 s'=zey l c L s' n:=rfl
theorem zmi (l c s:AV) (L:List Int) (n m:Int):(zey l c L s n).set 19 (.int .i64 m)=zey l c L s m:=rfl
theorem zaD:∀ (vc pre l post:List AV),l.length=vc.length->setAt (pre++(l++post)) pre.length vc=pre++(vc++post)
 | [],pre,l,post,h=>by
   obtain rfl:=List.length_eq_zero_iff.1 h
   rfl
 | c::cs,pre,[],post,h=>by simp at h
 | c::cs,pre,x::l,post,h=>by
   show setAt ((pre++x::(l++post)).set pre.length c) (pre.length+1) cs=_
   have e:(pre++x::(l++post)).set pre.length c=(pre++[c])++(l++post):=by
    rw [List.set_append_right _ _ (Nat.le_refl _),Nat.sub_self];simp
   have:=zaD cs (pre++[c]) l post (by simpa using h)
   rw [List.length_append] at this
   rw [e]
   rw [show (pre++[c])++(cs++post)=pre++(c::cs++post) from by simp] at this
   exact this
theorem zpn (v c:AV) (m:List AV) (h:m.length=16):setAt (setAt (setAt (setAt ([AV.nils,AV.nils]++List.replicate 16 (AV.int IntKind.i64 0)++[AV.nils]++[AV.int IntKind.i64 0]) 0 [v]) 1 [c]) 2 m) 19 [AV.int IntKind.i64 15]=[v,c]++m++[AV.nils,AV.int IntKind.i64 15]:=by
 have e:=zaD m [v,c] (List.replicate 16 (AV.int IntKind.i64 0)) [AV.nils,AV.int IntKind.i64 0] (by rw [h,List.length_replicate])
 have e2:=zaD [AV.int IntKind.i64 15] ([v,c]++m++[AV.nils]) [AV.int IntKind.i64 0] [] rfl
 rw [show ([v,c]++m++[AV.nils]).length=19 from by simp [h]] at e2
 show setAt (setAt ([v,c]++(List.replicate 16 (AV.int IntKind.i64 0)++[AV.nils,AV.int IntKind.i64 0])) 2 m) 19 [AV.int IntKind.i64 15]=_
 rw [show (2:Nat)=[v,c].length from rfl,e,show [v,c]++(m++[AV.nils,AV.int IntKind.i64 0])=[v,c]++m++[AV.nils]++([AV.int IntKind.i64 0]++[]) from by simp,e2]
 simp
theorem z4P {a:AV} {L:List Int} {σ:Mem} (ha:RdO 1 σ a (ic L) L.length) (hl:L.length<=2^44):z1 PG z1s [a] σ λv σ'=>zpX L σ σ' v:=by
 refine zhW λlive=>?_
 unfold zdX
 have hla:=ha.lt live
 have hone:=ha.one
 rw [z3t hone]
 refine zg4 hone ?_
 obtain ⟨pb,hpb⟩:∃ b,σ.next=b:=⟨_,rfl⟩
 rw [hpb]
 refine To.go ?_
 refine ldrw (l:=[a]) (v:=a) (by rw [Mem.get_bump,gS']) rfl ?_
 obtain ⟨σ1,h1⟩:∃ σ1,σ1=(((σ.bump 3).put pb (some (.rw [a]))).bump 7):=⟨_,rfl⟩
 rw [<- h1]
 have n1:σ1.next=σ.next+10:=by rw [h1];rfl
 have s1:σ.Same σ1:=by rw [h1];repeat (with_reducible first | exact Mem.Same.refl _ | refine Mem.Same.bump ?_ _ | refine Mem.Same.put ?_ (by omega) _)
 have e1:σ1.get pb=some (.rw [a]):=by rw [h1,Mem.get_bump,gS']
 clear h1
 refine z0 (zkI (σ:=σ1) (ha.same s1 hla) (by omega)) ?_
 rintro _ σ2 ⟨c,rfl,c1,c2,s2⟩
 have n2:=s2.next
 by_cases hc:chk L=0
 · obtain ⟨hL,cb,rfl,gc,lc,lc'⟩:=c2 hc
   have hL1:=hL.1
   rw [hc]
   have s02:=s1.trans s2
   have e2:σ2.get pb=some (.rw [a]):=(s2.get pb (by omega)).trans e1
   repeat (first | refine To.go ?_ | ((with_reducible apply opt);(· (rfl))) | ((with_reducible apply ldrw);(· ((simp (disch:=omega) only [go_sem, *];try rfl)));(· (rfl))) | with_reducible refine ifF (not_not_intro rfl) ?_)
   refine z0 (zbP (σ:=σ2.bump 10) (ha.same (s02.bump 10) hla) hl) ?_
   rintro v σ3 ⟨rv,s3,bv,ov⟩
   have n3:=s3.next
   simp only [Mem.next_bump] at n3 bv
   have s03:=s02.trans s3.ob
   refine To.go ?_
   refine And.intro (s3.ob.get pb (by omega)) ?_
   refine z0 (z8H (ha.same s03 hla) hL) ?_
   rintro _ σ4 ⟨rfl,s4⟩
   have n4:=s4.next
   have s04:=s03.trans s4
   refine z1Y ov ?_
   refine To.go ?_
   rw [z3t ov]
   refine zik (z5N L) (z3s _) ?_
   rw [show (AV.agg (cA L)).cells=cA L from rfl,show (AV.slice cb 0 L.length (Cap.ex L.length)).cells=[AV.slice cb 0 L.length (Cap.ex L.length)] from rfl,zpn _ _ _ (z5N L),show [v,AV.slice cb 0 L.length (Cap.ex L.length)]++cA L++[AV.nils,AV.int IntKind.i64 15]=zey v (.slice cb 0 L.length (.ex L.length)) L .nils 15 from rfl]
   refine zge (zof ov rfl rfl) ?_
   obtain ⟨r,hr⟩:∃ r,σ2.next+8=r:=⟨_,rfl⟩
   rw [hr]
   refine To.go ?_
   obtain ⟨σ5,h5⟩:∃ σ5,σ5=σ4.put r (some (.rw (zey v (.slice cb 0 L.length (.ex L.length)) L .nils 15))):=⟨_,rfl⟩
   rw [<- h5]
   have n5:σ5.next=σ4.next:=by rw [h5];rfl
   have s05:σ.Same σ5:=by rw [h5];repeat (with_reducible first | assumption | refine Mem.Same.put ?_ (by omega) _)
   have e5:σ5.get r=some (.rw (zey v (.slice cb 0 L.length (.ex L.length)) L .nils 15)):=by rw [h5,gS']
   have k5:∀ b,b≠r->b<σ4.next->σ5.get b=σ4.get b:=λb h1 h2=>by rw [h5,Mem.get_put_ne _ h1]
   clear h5
   have p5:σ5.get pb=some (.rw [a]):=by rw [k5 pb (by omega) (by omega),s4.get pb (by omega),s3.ob.get pb (by omega)];exact e2
   have v5:RdO 1 σ5 v (ic L) L.length:=rv.keep λb hb=>by
    have:=bv b hb
    rw [k5 b (by omega) (by omega),s4.get b (by omega)]
   have c5:σ5.get cb=some (.rw (ic (codes L))):=by rw [k5 cb (by omega) (by omega),s4.get cb (by omega),s3.ob.get cb (by omega)];exact gc
   refine ldrw (l:=[a]) (v:=a) p5 rfl ?_
   refine ha.len ?_
   refine loop1 (λ(i:Nat) (x:Int) σ'=>x=i/\i<=L.length/\∃ s,Mem.Only [r] σ5 σ'/\σ'.get r=some (.rw (zey v (.slice cb 0 L.length (.ex L.length)) L s 15))/\Own 1 σ5 σ' s (ic (syms L i)) (syms L i).length) (λi=>L.length-i) 0 ⟨rfl,by omega,.nils,⟨by simp only [Mem.next_bump];omega,λ_ _ _=>rfl⟩,e5,Own.nil 1 _ _⟩ ?_
   rintro i _ σ6 ⟨rfl,hi,s,o6,e6,own⟩
   unfold z9F
   rw [hr]
   have n6:=o6.next
   have k6:∀ b,b<σ5.next->b≠r->σ6.get b=σ5.get b:=λb h1 h2=>o6.get b h1 (by simpa using h2)
   refine ifD (λhlt=>?_) (λhge=>?_)
   · have hil:i<L.length:=by omega
     have s06:∀ b∈z3 a,σ6.get b=σ.get b:=λb hb=>by
      have:=hla b hb
      rw [k6 b (by omega) (by omega),s05.get b (by omega)]
     have hml:=zgj (L:=L) (i:=i) (by omega)
     have hml2:=zdS (L.take i)
     rw [List.length_take] at hml2
     have hsucc:=ze6 L i
     obtain ⟨bk,bkz,ck,hae,hget⟩:=(ha.keep s06).at hil
     rw [hae]
     refine To.go ?_
     refine And.intro (by omega) ?_
     refine hget _ ?_
     have hgd:=zA hil
     obtain ⟨x,hxe⟩:∃ x,L[i]=x:=⟨_,rfl⟩
     rw [hxe] at hgd ⊢
     rw [hgd] at hsucc
     refine To.go ?_
     refine join0 (λσ'=>∃ s,Mem.Only [r] σ5 σ'/\σ'.get r=some (.rw (zey v (.slice cb 0 L.length (.ex L.length)) L s 15))/\Own 1 σ5 σ' s (ic (syms L (i+1))) (syms L (i+1)).length) ?_ ?_
     · refine ifD (λh0=>?_) (λh0=>?_)
       · rw [if_pos h0] at hsucc
         refine To.go ?_
         refine ldrw (v:=s) e6 rfl ?_
         refine To.go ?_
         refine own.pushO (m:=1) o6 rfl (by omega) (by omega) (by omega) rfl rfl (z3s _) (by omega) ?_ (by simp only [Mem.next_put,Mem.next_bump];omega)
         intro s' σ7 own7 o7 hn7 o67 hb7
         have e7:σ7.get r=some (.rw (zey v (.slice cb 0 L.length (.ex L.length)) L s 15)):=by
          rw [o67.get r (by omega) λh=>by have:=own.2 r h;omega];exact e6
         refine To.go ?_
         refine st1 e7 (by simp [zey,z5N]) own7.1.rdO.one ?_
         refine ⟨s',⟨o7.next,λb h1 h2=>?_⟩,by rw [gS',znH],?_⟩
         · rw [Mem.get_put_ne _ (by simpa using h2)];exact o7.get b h1 h2
         · rw [hsucc,z3k,List.length_append]
           exact ⟨own7.1.keep λb hb=>by rw [Mem.get_put_ne _ (by have:=own7.2 b hb;omega)],λb hb=>own7.2 b hb⟩
       · rw [if_neg h0,List.append_nil] at hsucc
         rw [hsucc]
         exact ⟨s,o6.bump _,e6,own.1.keep λ_ _=>rfl,λb hb=>by have:=own.2 b hb;simp only [Mem.next_bump];omega⟩
     · rintro σ7 ⟨s,o7,e7,own⟩
       unfold z9B
       refine z6 (by omega) ?_
       refine again ⟨i+1,⟨by omega,by omega,s,o7.bump _,e7,own.1.keep λ_ _=>rfl,λb hb=>by have:=own.2 b hb;simp only [Mem.next_bump];omega⟩,by omega⟩
   · obtain rfl:i=L.length:=by omega
     have hml:=zgj (L:=L) (i:=L.length) (Nat.le_refl _)
     have hml2:=zdS L
     rw [List.take_length] at hml
     refine To.go ?_
     refine ldrw (v:=s) e6 rfl ?_
     have ap6:σ6.get pb=some (.rw [a]):=by rw [k6 pb (by omega) (by omega)];exact p5
     rw [hpb]
     refine z0 (zoa (σ:=σ6.bump 7) (s:=s) (X:=syms L L.length) (key:=lkey L) (S:=λx=>∃ j:Nat,x=j/\j<L.length) (own.1.keep λ_ _=>rfl) (λb hb=>by have:=own.2 b hb;simp only [Mem.next_bump];omega) (by omega) ?_ ?_) ?_
     · intro x hx
       obtain ⟨j,h1,h2,_⟩:=zfA hx
       exact ⟨j,h1,h2⟩
     · intro b hb
       have:=own.2 b hb
       refine znG (a:=a) ap6 (by simp only [Mem.next_bump];omega) (by omega) (ha.keep λx hx=>?_) (λx hx=>?_) (by omega)
       · have:=hla x hx
         rw [Mem.get_bump,k6 x (by omega) (by omega),s05.get x (by omega)]
       · have:=hla x hx
         simp only [Mem.next_bump];omega
     rintro _ σ7 ⟨T,sT,oT,ownT,o7⟩
     have n7:=o7.next
     simp only [Mem.next_bump] at n7
     have hTl:=sT.1
     have k7:∀ b,b<σ5.next->σ7.get b=σ6.get b:=λb h=>o7.get b (by simp only [Mem.next_bump];omega) λhb=>by have:=own.2 b hb;omega
     have e7:σ7.get r=some (.rw (zey v (.slice cb 0 L.length (.ex L.length)) L s 15)):=by rw [k7 r (by omega)];exact e6
     have fin:∀ σ',σ7.next<=σ'.next->(∀ b,b<σ7.next->b≠r->σ'.get b=σ7.get b)->σ'.get r=some (.rw (zey v (.slice cb 0 L.length (.ex L.length)) L s (zgB L)))->zpX L σ σ' (.tup [.ptr r 0,.int .i64 0]):=by
      intro σ' n' k' e'
      refine ⟨_,by rw [hc],λh=>absurd hc h,λ_=>⟨hL,r,rfl,v,_,s,T,e',v5.keep λb hb=>?_,.mk (b:=cb) rfl ⟨.rw (ic (codes L)),?_,rfl⟩ (by rw [z0j,z4V,Nat.mul_one]),?_,sT,oT,by omega,λb hb=>?_,λb hb=>?_,λb hb=>?_⟩,by omega,λb hb=>?_⟩
      · have:=bv b hb
        rw [k' b (by omega) (by omega),k7 b (by omega),k6 b (by omega) (by omega)]
      · rw [k' cb (by omega) (by omega),k7 cb (by omega),k6 cb (by omega) (by omega)];exact c5
      · rw [hTl]
        exact ownT.rdO.keep λb hb=>by have:=own.2 b hb;exact k' b (by omega) (by omega)
      · have:=bv b hb;omega
      · simp only [z3,List.mem_singleton] at hb;omega
      · have:=own.2 b hb;omega
      · rw [k' b (by omega) (by omega),k7 b (by omega),k6 b (by omega) (by omega),s05.get b (by omega)]
     refine To.go ?_
     refine ldrw (v:=s) e7 rfl ?_
     refine ownT.rdO.len ?_
     unfold z9V
     rw [hr]
     refine zu ?_
     have hmo:zgB L=if many L<2 then ((many L:Nat):Int) else 15:=rfl
     refine ifD (λhlt=>?_) (λhge=>?_)
     · rw [if_pos (by omega)] at hmo
       refine To.go ?_
       refine ldrw (v:=s) e7 rfl ?_
       refine ownT.rdO.len ?_
       refine To.go ?_
       refine st1 e7 (by simp [zey,z5N]) rfl ?_
       refine fin _ (by simp only [Mem.next_bump,Mem.next_put];omega) (λb h1 h2=>by rw [Mem.get_bump,Mem.get_put_ne _ h2];rfl) ?_
       rw [Mem.get_bump,gS',zmi,hmo,hml]
     · rw [if_neg (by omega)] at hmo
       refine fin _ (by simp only [Mem.next_bump];omega) (λb h1 h2=>rfl) ?_
       rw [hmo];exact e7
 · repeat (first | refine To.go ?_ | ((with_reducible apply opt);(· (rfl))) | with_reducible refine ifT (by omega) ?_)
   exact ⟨_,rfl,λ_=>rfl,λh=>absurd h hc,(s1.trans s2).bump _⟩
end
section
def zcK (lo hi:Nat) (L:List Int) (σ:Mem) (r:Nat):Prop:=
 ∃ l c s T,σ.get r=some (.rw (zey l c L s (zgB L)))/\RdO 1 σ l (ic L) L.length/\RdO 1 σ c (ic (codes L)) L.length/\RdO 1 σ s (ic T) T.length/\Stb (lkey L) (syms L L.length) T/\Srt (lkey L) T/\(lo<=r/\r<hi)/\(∀ b∈z3 l,lo<=b/\b<hi)/\(∀ b∈z3 c,lo<=b/\b<hi)/\(∀ b∈z3 s,lo<=b/\b<hi)
theorem Tab.b {lo:Nat} {L:List Int} {σ:Mem} {r:Nat} (h:Tab lo L σ r):zcK lo σ.next L σ r:=h
theorem zcK.keep {lo hi:Nat} {L:List Int} {σ σ':Mem} {r:Nat} (h:zcK lo hi L σ r) (hg:∀ b,lo<=b->b<hi->σ'.get b=σ.get b):zcK lo hi L σ' r:=by
 obtain ⟨l,c,s,T,h1,h2,h3,h4,h5,h6,h7,h8,h9,h10⟩:=h
 exact ⟨l,c,s,T,(hg r h7.1 h7.2).trans h1,h2.keep λb hb=>hg b (h8 b hb).1 (h8 b hb).2,h3.keep λb hb=>hg b (h9 b hb).1 (h9 b hb).2,h4.keep λb hb=>hg b (h10 b hb).1 (h10 b hb).2,h5,h6,h7,h8,h9,h10⟩
theorem zbZ {s:ByteArray} {at':Nat} (h:¬ 8*s.size<=at'):z36 s at' 1=(z2T s at',0,at'+1):=by
 unfold z36
 rw [if_neg (by omega),if_neg (by omega)]
 show (val s at' 1,(0:Int),at'+1)=_
 congr 1
 show val s at' 0+z2T s (at'+0)*2^0=_
 show 0+z2T s (at'+0)*1=_
 rw [Nat.zero_add,Nat.mul_one,Nat.add_zero]
theorem zfl {s:ByteArray} {at':Nat} (h:8*s.size<=at'):z36 s at' 1=(0,3,at'):=by
 unfold z36
 rw [if_neg (by omega),if_pos (by omega)]
theorem zoi (L:List Int):zgB L=(z1T L:Nat):=by
 unfold zgB z1T
 split<;>rfl
theorem zmU {lo hi t r at':Nat} {L:List Int} {s:ByteArray} {σ:Mem} (hL:lens L) (ht:zcK lo hi L σ t) (hhi:hi<=σ.next) (hr:r<lo\/hi<=r) (hs:s.size<=2^50) (h:σ.get r=some (rdP s at')) (ha:at'<=8*s.size) :
 z1 PG z11 [.ptr t 0,.ptr r 0] σ λv σ'=>v=.tup [.int .i64 (dec L s (z1T L) 1 0 at').1,.int .i64 (dec L s (z1T L) 1 0 at').2.1]/\σ'.get r=some (rdP s (dec L s (z1T L) 1 0 at').2.2)/\Mem.Only [r] σ σ':=by
 refine zbq λlive=>?_
 unfold z72
 have hL1:=hL.1
 have hm15:z1T L<=15:=by unfold z1T;split<;>omega
 have hrl:=live.lt h
 repeat (refine To.go ?_)
 obtain ⟨D,hD⟩:∃ D,dec L s (z1T L) 1 0 at'=D:=⟨_,rfl⟩
 rw [hD]
 have hdl:D.2.2<=8*s.size:=by rw [<- hD];exact zeZ _ _ _ ha
 refine loop4 (λ(k:Nat) (code start seen n:Int) σ'=>∃ j c p:Nat,n=j/\code=c/\start=(fc L (j-1)+cN L (j-1):Nat)/\seen=(msum (cN L) j:Nat)/\1<=j/\k+j=z1T L+1/\fc L (j-1)+cN L (j-1)<=c/\c<2^j/\p<=8*s.size/\dec L s k j c p=D/\σ'.get r=some (rdP s p)/\Mem.Only [r] σ σ') (λk=>k) (z1T L) ⟨1,0,at',rfl,rfl,by rw [zci];rfl,by rw [msum,msum,zci];rfl,by omega,rfl,by rw [zci];exact Nat.le_refl _,by omega,ha,hD,h,⟨by simp only [Mem.next_bump];omega,λ_ _ _=>rfl⟩⟩ ?_
 rintro k _ _ _ _ σ1 ⟨j,c,p,rfl,rfl,rfl,rfl,hj,hkj,hle,hc,hp,hd,e1,o1⟩
 unfold z5j
 have n1:=o1.next
 have htk:∀ σ',Mem.Only [r] σ σ'->zcK lo hi L σ' t:=λσ' o=>ht.keep λb h1 h2=>o.get b (by omega) (by simp;omega)
 obtain ⟨l,cc,sy,T,g1,_,_,rT,sT,oT,_⟩:=htk σ1 o1
 have hmt:=zoi L
 refine To.go ?_
 refine To.go ?_
 refine ldrw (l:=zey l cc L sy (zgB L)) (v:=.int .i64 (zgB L)) g1 rfl ?_
 refine To.go ?_
 rw [hmt]
 refine ifD (λhlt=>?_) (λhge=>?_)
 · refine z0 (z80 (σ:=σ1.bump 13) hs e1 hp) ?_
   rintro _ σ2 ⟨rfl,e2,o2⟩
   have n2:=o2.next
   simp only [Mem.next_bump] at n2
   have o12:Mem.Only [r] σ σ2:=⟨by omega,λb h1 h2=>(o2.get b (by simp only [Mem.next_bump];omega) h2).trans (o1.get b h1 h2)⟩
   obtain ⟨k,rfl⟩:∃ k',k=k'+1:=⟨k-1,by omega⟩
   unfold dec at hd
   by_cases hend:8*s.size<=p
   · rw [zfl hend] at e2 ⊢
     rw [if_pos hend] at hd
     repeat (first | refine To.go ?_ | ((with_reducible apply opt);(· (rfl))))
     subst hd
     exact ⟨rfl,e2,o12.bump _⟩
   rw [zbZ hend] at e2 ⊢
   rw [if_neg hend] at hd
   obtain ⟨u,hu⟩:∃ u,z2T s p=u:=⟨_,rfl⟩
   have hul:=zd3 s p
   rw [hu] at hul hd ⊢
   dsimp only at e2 ⊢
   repeat (first | refine To.go ?_ | ((with_reducible apply opt);(· (rfl))) | with_reducible refine ifF (not_not_intro rfl) ?_)
   have hp16:2^j<=2^15:=z1D (by omega)
   have hfb:=zaP hL1 (n:=j) (by omega)
   have hcl:=zhA L j
   have hor:zB .or .i64 ((c:Int)*2) (u:Int)=((2*c+u:Nat):Int):=by
    rw [show ((c:Int)*2)=((c*2:Nat):Int) from by omega,ziL (by omega) (by omega)]
    have:=z7L (a:=u) (b:=c) (n:=1) (by omega)
    rw [Nat.pow_one,Nat.or_comm] at this
    rw [Int.toNat_natCast,Int.toNat_natCast,this];omega
   have hfc:fc L j=2*(fc L (j-1)+cN L (j-1)):=by
    obtain ⟨m,rfl⟩:∃ m,j=m+1:=⟨j-1,by omega⟩
    rw [fc];simp only [Nat.add_sub_cancel];omega
   have hms:msum (cN L) (j+1)=msum (cN L) j+cN L j:=rfl
   have hmj:=(sums hL.2).1
   have hmm:=zaj (c:=cN L) (k:=j) (m:=16) (by omega)
   have hml:=zdS L
   refine And.intro (by omega) ?_
   rw [hor]
   refine To.go ?_
   obtain ⟨x,hx⟩:∃ x,2*c+u=x:=⟨_,rfl⟩
   rw [hx] at hd ⊢
   refine z6 (by omega) ?_
   refine z6 (by omega) ?_
   obtain ⟨l,cc,sy,T,g1,_,_,rT,sT,oT,_⟩:=htk σ2 o12
   have gm:(zey l cc L sy (zgB L))[2+j]? = some (.int .i64 (cN L j:Nat)):=by
    have:=zoe (L:=L) (k:=j) (by omega)
    unfold zey
    rw [List.append_assoc,List.getElem?_append_right (by simp),List.getElem?_append_left (by rw [z5N];simp;omega)]
    rw [show 2+j-[l,cc].length=j from by simp]
    exact this
   refine To.go ?_
   refine To.go ?_
   refine And.intro (by omega) ?_
   rw [show 2+j*1=2+j from by omega]
   refine To.go ?_
   refine ldrw g1 gm ?_
   refine To.go ?_
   refine ifD (λhk=>?_) (λhk=>?_)
   · obtain ⟨i,hi,hin,hik,hf⟩:=zjf (L:=L) (n:=j) (c:=x) (by omega) (by omega) (by omega)
     rw [hf] at hd
     dsimp only at hd
     have hT:T[msum (cN L) j+(x-fc L j)]? = some (i:Int):=by
      obtain ⟨m,rfl⟩:∃ m,j=m+1:=⟨j-1,by omega⟩
      rw [<- znc hL.2 T sT m]
      refine oT.at (n:=((m+1:Nat):Int)) ?_
      rw [sT.2,<- hik]
      exact (zfM (L:=L) (m+1) (by omega) (Nat.le_refl _)).2 i hi hin
     have hTl:=(List.getElem?_eq_some_iff.1 hT).1
     refine To.go ?_
     refine ldrw (v:=sy) g1 rfl ?_
     refine z6 (by omega) ?_
     rw [show ((msum (cN L) j:Nat):Int)+((x:Int)-((fc L (j-1)+cN L (j-1):Nat):Int)*2)=((msum (cN L) j+(x-fc L j):Nat):Int) from by omega]
     obtain ⟨bs,bsz,cs,rfl,hget⟩:=rT.iat hT hTl hTl
     refine To.go ?_
     refine And.intro hTl ?_
     refine To.go ?_
     refine hget _ ?_
     refine To.go ?_
     subst hd
     exact ⟨rfl,e2,o12.bump _⟩
   · have hf:=zou (L:=L) (n:=j) (c:=x) (by omega) (by omega)
     rw [hf] at hd
     dsimp only at hd
     refine To.go ?_
     refine To.go ?_
     refine And.intro (by omega) ?_
     rw [show 2+j*1=2+j from by omega]
     refine To.go ?_
     refine ldrw g1 gm ?_
     refine To.go ?_
     refine z6 (by omega) ?_
     refine To.go ?_
     refine To.go ?_
     refine And.intro (by omega) ?_
     rw [show 2+j*1=2+j from by omega]
     refine To.go ?_
     refine ldrw g1 gm ?_
     refine To.go ?_
     refine z6 (by omega) ?_
     refine z6 (by omega) ?_
     have hpw:2^(j+1)=2*2^j:=by rw [Nat.pow_succ];omega
     refine again ⟨k,⟨j+1,x,p+1,by omega,rfl,?_,by omega,by omega,by omega,?_,by omega,by omega,hd,e2,o12.bump _⟩,by omega⟩
     · rw [Nat.add_sub_cancel,hfc];omega
     · rw [Nat.add_sub_cancel];omega
 · obtain rfl:k=0:=by omega
   unfold dec at hd
   subst hd
   exact ⟨rfl,e1,o1.bump _⟩
end
section
def zd0 (lo hi:Nat) (L:List Int) (σ:Mem) (r:Nat):Prop:=
 ∃ l c,σ.get r=some (.rw [l,c])/\RdO 1 σ l (ic L) L.length/\RdO 1 σ c (ic (codes L)) L.length/\(lo<=r/\r<hi)/\(∀ b∈z3 l,lo<=b/\b<hi)/\(∀ b∈z3 c,lo<=b/\b<hi)
theorem zd0.keep {lo hi:Nat} {L:List Int} {σ σ':Mem} {r:Nat} (h:zd0 lo hi L σ r) (hg:∀ b,lo<=b->b<hi->σ'.get b=σ.get b):zd0 lo hi L σ' r:=by
 obtain ⟨l,c,h1,h2,h3,h7,h8,h9⟩:=h
 exact ⟨l,c,(hg r h7.1 h7.2).trans h1,h2.keep λb hb=>hg b (h8 b hb).1 (h8 b hb).2,h3.keep λb hb=>hg b (h9 b hb).1 (h9 b hb).2,h7,h8,h9⟩
def zpH (L:List Int) (σ σ':Mem) (v:AV):Prop:=
 ∃ p,v=.tup [p,.int .i64 (chk L)]/\(chk L≠0->p=.nilp)/\(chk L=0->lens L/\∃ r,p=.ptr r 0/\zd0 σ.next σ'.next L σ' r)/\σ.Same σ'
theorem zkJ {a:AV} {L:List Int} {σ:Mem} (ha:RdO 1 σ a (ic L) L.length) (hl:L.length<=2^44):z1 PG z8x [a] σ λv σ'=>zpH L σ σ' v:=by
 refine zgC λlive=>?_
 unfold zcG
 have hla:=ha.lt live
 refine z0 (ziF (σ:=σ.bump 9) (ha.keep λ_ _=>rfl) (by omega)) ?_
 rintro _ σ1 ⟨c,rfl,c1,c2,s1⟩
 have n1:=s1.next
 simp only [Mem.next_bump] at n1 c2
 replace s1:=s1.ob
 by_cases hc:chk L=0
 · obtain ⟨hL,cb,rfl,gc,lc,lc'⟩:=c2 hc
   have hL1:=hL.1
   rw [hc]
   repeat (first | refine To.go ?_ | ((with_reducible apply opt);(· (rfl))) | with_reducible refine ifF (not_not_intro rfl) ?_)
   have ha1:=ha.same s1 hla
   refine z1Q.append (σ:=σ1.bump 11) (n:=0) (m:=L.length) (cs:=[]) (c:=ic L) (.nil 1 _) (λK hK=>zir (σ:=σ1.bump 11) (ha1.keep λ_ _=>rfl) K hK) (λh=>by rw [List.length_eq_zero_iff.1 h];rfl) (by rw [z0j,Nat.mul_one]) (z3s _) rfl (by omega) (by simp [z3]) ?_
   intro v σ2 own n2 k2 b2
   simp only [Mem.next_bump] at n2
   have hv:∀ b∈z3 v,b=σ1.next+5:=λb hb=>by
    rcases b2 b hb with h | h
    · simp [z3] at h
    · exact h
   rw [List.nil_append,Nat.zero_add] at own
   have ov:=own.rdO.one
   refine z1Y ov ?_
   refine z1Y rfl ?_
   rw [z3t ov,show (AV.slice cb 0 L.length (Cap.ex L.length)).cells=[AV.slice cb 0 L.length (Cap.ex L.length)] from rfl,show setAt (setAt [AV.nils,AV.nils] 0 [v]) 1 [AV.slice cb 0 L.length (Cap.ex L.length)]=[v,AV.slice cb 0 L.length (Cap.ex L.length)] from rfl]
   refine zge (by simp [ov];rfl) ?_
   refine To.go ?_
   refine ⟨_,by rw [hc],λh=>absurd hc h,λ_=>⟨hL,σ1.next+8,rfl,v,_,gS',own.rdO.keep λb hb=>?_,.mk (b:=cb) rfl ⟨.rw (ic (codes L)),?_,rfl⟩ (by rw [z0j,z4V,Nat.mul_one]),?_,λb hb=>?_,λb hb=>?_⟩,?_⟩
   · have:=hv b hb
     rw [Mem.get_put_ne _ (by omega)]
   · rw [Mem.get_put_ne _ (by omega),k2 cb (by simp [z3]) (by omega)];exact gc
   · simp only [Mem.next_put];omega
   · have:=hv b hb
     simp only [Mem.next_put];omega
   · simp only [z3,List.mem_singleton] at hb
     simp only [Mem.next_put];omega
   · refine ⟨by simp only [Mem.next_put];omega,λb hb=>?_⟩
     rw [Mem.get_put_ne _ (by omega),k2 b (by simp [z3]) (by omega)]
     exact s1.get b hb
 · repeat (first | refine To.go ?_ | ((with_reducible apply opt);(· (rfl))) | with_reducible refine ifT (by omega) ?_)
   exact ⟨_,rfl,λ_=>rfl,λh=>absurd h hc,s1.bump _⟩
end
section
def zhq (p:Nat×Nat) (c:Nat):Nat->Nat×Nat
 | 0=>p
 | k+1=>zhq (lay p.1 p.2 ((c / 2^k:Nat):Int) 1) c k
def znd (L:List Int) (x:Int):Prop:=0<=x/\x<L.length/\L.getD x.toNat 0≠0
instance (L:List Int) (x:Int):Decidable (znd L x):=by unfold znd;infer_instance
def z5m (L:List Int) (p:Nat×Nat) (x:Int):Nat×Nat:=if znd L x then zhq p (cd L x.toNat) (L.getD x.toNat 0).toNat else p
def zne (L:List Int) (x:Int):Int:=if znd L x then 0 else 1
theorem zeb (p:Nat×Nat) (v:Int):(lay p.1 p.2 v 1).2=p.2+1:=by
 unfold lay;rw [if_neg (by omega)];rfl
theorem zg8 (c:Nat):∀ (k:Nat) (p:Nat×Nat),(zhq p c k).2=p.2+k
 | 0,_=>rfl
 | k+1,p=>by rw [zhq,zg8 c k,zeb];omega
theorem zfW {lo hi t w:Nat} {o:List Nat} {L:List Int} {p:Nat×Nat} {x:Int} {σ:Mem} (hL:lens L) (ht:zcK lo hi L σ t) (hhi:hi<=σ.next) (ho:∀ b∈o,b<lo\/hi<=b) (h:WrP σ w o p.1 p.2) (hN:p.2<=2^39) :
 z1 PG z2f [.ptr t 0,.ptr w 0,.int .i64 x] σ λv σ'=>v=.int .i64 (zne L x)/\∃ o',WrP σ' w o' (z5m L p x).1 (z5m L p x).2/\Grow o o' σ σ':=by
 refine zcf λlive=>?_
 unfold z7X
 have hL1:=hL.1
 have hol:∀ b∈o,b<σ.next:=h.2.lt live
 have htk:∀ o' σ',Grow o o' σ σ'->zcK lo hi L σ' t:=λo' σ' g=>ht.keep λb h1 h2=>g.only.get b (by omega) λhb=>by have:=ho b hb;omega
 obtain ⟨l,c,s,T,g1,rl,rc,_⟩:=ht
 have g0:Grow o o σ σ:=Grow.refl hol
 have nope:∀ k,¬ znd L x->(λ(v:AV) (σ':Mem)=>v=.int .i64 (zne L x)/\∃ o',WrP σ' w o' (z5m L p x).1 (z5m L p x).2/\Grow o o' σ σ') (.int .i64 1) (σ.bump k):=by
  intro k hn
  unfold zne z5m
  rw [if_neg hn,if_neg hn]
  exact ⟨rfl,o,h.keep λ_ _=>rfl,g0.bump k⟩
 repeat (refine To.go ?_)
 refine ifD (λhlt=>?_) (λhge=>?_)
 · exact nope _ λhs=>by have:=hs.1;omega
 obtain ⟨i,rfl⟩:=z20 (by omega:0<=x)
 refine To.go ?_
 refine To.go ?_
 refine ldrw (v:=l) g1 rfl ?_
 refine rl.len ?_
 refine ifD (λhlt=>?_) (λhge=>?_)
 · exact nope _ λhs=>by have:=hs.2.1;omega
 have hil:i<L.length:=by omega
 have hgd:=zA hil
 have hx:=hL.2 _ (List.getElem_mem hil)
 obtain ⟨b,bz,ca,rfl,hget⟩:=rl.at hil
 refine To.go ?_
 refine To.go ?_
 refine ldrw (v:=.slice b bz L.length ca) g1 rfl ?_
 refine To.go ?_
 refine And.intro hil ?_
 refine To.go ?_
 refine hget _ ?_
 obtain ⟨y,hy⟩:∃ y,L[i]=y:=⟨_,rfl⟩
 rw [hy] at hgd hx ⊢
 refine To.go ?_
 refine ifD (λh0=>?_) (λh0=>?_)
 · refine nope _ λhs=>hs.2.2 ?_
   rw [Int.toNat_natCast,hgd];exact h0
 obtain ⟨n,rfl⟩:=z20 hx.1
 have hhas:znd L (i:Int):=⟨by omega,by omega,by rw [Int.toNat_natCast,hgd];exact h0⟩
 have hlay:z5m L p (i:Int)=zhq p (cd L i) n:=by unfold z5m;rw [if_pos hhas,Int.toNat_natCast,hgd,Int.toNat_natCast]
 have hE:zne L (i:Int)=0:=if_pos hhas
 have hcd:=zpQ hL i
 rw [hlay,hE]
 refine To.go ?_
 refine ldrw (v:=.slice b bz L.length ca) g1 rfl ?_
 refine To.go ?_
 refine And.intro hil ?_
 refine To.go ?_
 refine hget _ ?_
 rw [hy]
 refine To.go ?_
 refine z6 (by omega) ?_
 refine loop1 (λ(k:Nat) (j:Int) σ'=>j=(k:Int)-1/\k<=n/\∃ q o',zhq q (cd L i) k=zhq p (cd L i) n/\q.2+k=p.2+n/\WrP σ' w o' q.1 q.2/\Grow o o' σ σ') (λk=>k) n ⟨rfl,Nat.le_refl _,p,o,rfl,rfl,h.keep λ_ _=>rfl,g0.bump _⟩ ?_
 rintro k _ σ1 ⟨rfl,hk,q,o1,hq,hq2,w1,gr1⟩
 unfold z5J
 obtain ⟨l',c',s',T',g1',_,rc',_⟩:=htk o1 σ1 gr1
 refine ifD (λhlt=>?_) (λhge=>?_)
 · obtain ⟨k,rfl⟩:∃ k',k=k'+1:=⟨k-1,by omega⟩
   have hcl:=z4V L
   obtain ⟨bc,bcz,cc,rfl,hgetc⟩:=rc'.iat (L:=codes L) (i:=i) (x:=(cd L i:Nat)) (by unfold codes arr;rw [List.getElem?_map,List.getElem?_range hil];rfl) hil (by omega)
   have hdl:cd L i / 2^k<=cd L i:=Nat.div_le_self _ _
   refine To.go ?_
   refine ldrw (v:=.slice bc bcz L.length cc) g1' rfl ?_
   refine To.go ?_
   refine And.intro hil ?_
   refine To.go ?_
   refine hgetc _ ?_
   refine To.go ?_
   refine To.go ?_
   refine And.intro (by omega) ?_
   rw [show (((k+1:Nat):Int)-1).toNat=k from by omega,show ((cd L i:Nat):Int) / 2^k=((cd L i / 2^k:Nat):Int) from by push_cast;rfl]
   obtain ⟨z,hz⟩:∃ z,cd L i / 2^k=z:=⟨_,rfl⟩
   rw [zhq,hz] at hq
   rw [hz] at hdl ⊢
   refine z0 (z0b (σ:=σ1.bump 13) (w1.keep λ_ _=>rfl) (by omega) (by omega) (by omega)) ?_
   rintro _ σ2 ⟨rfl,o2,w2,gr2⟩
   refine z6 (by omega) ?_
   refine again ⟨k,⟨by omega,by omega,_,o2,hq,?_,w2.keep λ_ _=>rfl,(gr1.trans gr2.ob).bump _⟩,by omega⟩
   rw [zeb];omega
 · obtain rfl:k=0:=by omega
   rw [<- hq]
   exact ⟨rfl,o1,w1.keep λ_ _=>rfl,gr1.bump _⟩
theorem zmP {lo hi t w:Nat} {o:List Nat} {L:List Int} {p:Nat×Nat} {x:Int} {σ:Mem} (hL:lens L) (ht:zd0 lo hi L σ t) (hhi:hi<=σ.next) (ho:∀ b∈o,b<lo\/hi<=b) (h:WrR σ w o p.1 p.2) (hN:p.2<=2^39) :
 z1 PG z4w [.ptr t 0,.ptr w 0,.int .i64 x] σ λv σ'=>v=.int .i64 (zne L x)/\∃ o',WrR σ' w o' (z5m L p x).1 (z5m L p x).2/\Grow o o' σ σ':=by
 refine zbs λlive=>?_
 unfold z7q
 have hL1:=hL.1
 have hol:∀ b∈o,b<σ.next:=h.lt live
 have htk:∀ o' σ',Grow o o' σ σ'->zd0 lo hi L σ' t:=λo' σ' g=>ht.keep λb h1 h2=>g.only.get b (by omega) λhb=>by have:=ho b hb;omega
 obtain ⟨l,c,g1,rl,rc,_⟩:=ht
 have g0:Grow o o σ σ:=Grow.refl hol
 have nope:∀ k,¬ znd L x->(λ(v:AV) (σ':Mem)=>v=.int .i64 (zne L x)/\∃ o',WrR σ' w o' (z5m L p x).1 (z5m L p x).2/\Grow o o' σ σ') (.int .i64 1) (σ.bump k):=by
  intro k hn
  unfold zne z5m
  rw [if_neg hn,if_neg hn]
  exact ⟨rfl,o,h.keep λ_ _=>rfl,g0.bump k⟩
 refine ifD (λhlt=>?_) (λhge=>?_)
 · exact nope _ λhs=>by have:=hs.1;omega
 obtain ⟨i,rfl⟩:=z20 (by omega:0<=x)
 refine To.go ?_
 refine To.go ?_
 refine ldrw (v:=l) g1 rfl ?_
 refine rl.len ?_
 refine ifD (λhlt=>?_) (λhge=>?_)
 · exact nope _ λhs=>by have:=hs.2.1;omega
 have hil:i<L.length:=by omega
 have hgd:=zA hil
 have hx:=hL.2 _ (List.getElem_mem hil)
 obtain ⟨b,bz,ca,rfl,hget⟩:=rl.at hil
 refine To.go ?_
 refine To.go ?_
 refine ldrw (v:=.slice b bz L.length ca) g1 rfl ?_
 refine To.go ?_
 refine And.intro hil ?_
 refine To.go ?_
 refine hget _ ?_
 obtain ⟨y,hy⟩:∃ y,L[i]=y:=⟨_,rfl⟩
 rw [hy] at hgd hx ⊢
 refine To.go ?_
 refine ifD (λh0=>?_) (λh0=>?_)
 · refine nope _ λhs=>hs.2.2 ?_
   rw [Int.toNat_natCast,hgd];exact h0
 obtain ⟨n,rfl⟩:=z20 hx.1
 have hhas:znd L (i:Int):=⟨by omega,by omega,by rw [Int.toNat_natCast,hgd];exact h0⟩
 have hlay:z5m L p (i:Int)=zhq p (cd L i) n:=by unfold z5m;rw [if_pos hhas,Int.toNat_natCast,hgd,Int.toNat_natCast]
 have hE:zne L (i:Int)=0:=if_pos hhas
 have hcd:=zpQ hL i
 rw [hlay,hE]
 refine To.go ?_
 refine ldrw (v:=.slice b bz L.length ca) g1 rfl ?_
 refine To.go ?_
 refine And.intro hil ?_
 refine To.go ?_
 refine hget _ ?_
 rw [hy]
 refine To.go ?_
 refine z6 (by omega) ?_
 refine loop1 (λ(k:Nat) (j:Int) σ'=>j=(k:Int)-1/\k<=n/\∃ q o',zhq q (cd L i) k=zhq p (cd L i) n/\q.2+k=p.2+n/\WrR σ' w o' q.1 q.2/\Grow o o' σ σ') (λk=>k) n ⟨rfl,Nat.le_refl _,p,o,rfl,rfl,h.keep λ_ _=>rfl,g0.bump _⟩ ?_
 rintro k _ σ1 ⟨rfl,hk,q,o1,hq,hq2,w1,gr1⟩
 unfold z5r
 obtain ⟨l',c',g1',_,rc',_⟩:=htk o1 σ1 gr1
 refine ifD (λhlt=>?_) (λhge=>?_)
 · obtain ⟨k,rfl⟩:∃ k',k=k'+1:=⟨k-1,by omega⟩
   have hcl:=z4V L
   obtain ⟨bc,bcz,cc,rfl,hgetc⟩:=rc'.iat (L:=codes L) (i:=i) (x:=(cd L i:Nat)) (by unfold codes arr;rw [List.getElem?_map,List.getElem?_range hil];rfl) hil (by omega)
   have hdl:cd L i / 2^k<=cd L i:=Nat.div_le_self _ _
   refine To.go ?_
   refine ldrw (v:=.slice bc bcz L.length cc) g1' rfl ?_
   refine To.go ?_
   refine And.intro hil ?_
   refine To.go ?_
   refine hgetc _ ?_
   refine To.go ?_
   refine To.go ?_
   refine And.intro (by omega) ?_
   rw [show (((k+1:Nat):Int)-1).toNat=k from by omega,show ((cd L i:Nat):Int) / 2^k=((cd L i / 2^k:Nat):Int) from by push_cast;rfl]
   obtain ⟨z,hz⟩:∃ z,cd L i / 2^k=z:=⟨_,rfl⟩
   rw [zhq,hz] at hq
   rw [hz] at hdl ⊢
   refine z0 (z7n (σ:=σ1.bump 13) (w1.keep λ_ _=>rfl) (by omega) (by omega) (by omega)) ?_
   rintro _ σ2 ⟨rfl,o2,w2,gr2⟩
   refine z6 (by omega) ?_
   refine again ⟨k,⟨by omega,by omega,_,o2,hq,?_,w2.keep λ_ _=>rfl,(gr1.trans gr2.ob).bump _⟩,by omega⟩
   rw [zeb];omega
 · obtain rfl:k=0:=by omega
   rw [<- hq]
   exact ⟨rfl,o1,w1.keep λ_ _=>rfl,gr1.bump _⟩
end
end Go.Vit
