/- The library. -/
import Derived.Test.YtloeboiajgfigaaGreatV7U
set_option linter.unusedVariables false
set_option linter.unusedSimpArgs false
section
/- Inflate's walk 1 (as in the third seat) -/
set_option maxRecDepth 20000
namespace Go.Vit
open Go.Proofs
section
theorem Fr.ne {α:Type} {m:Rd α} (h:Fr m) {s:ByteArray} {p:Nat} {e:Int} (hp:p<=8*s.size) (he:m s p=.error e):e≠0:=by
 have:=h s ByteArray.empty p hp
 rw [he] at this
 exact this.1
theorem Fr.le {α:Type} {m:Rd α} (h:Fr m) {s:ByteArray} {p q:Nat} {a:α} (hp:p<=8*s.size) (he:m s p=.ok (a,q)):p<=q/\q<=8*s.size:=by
 have:=h s ByteArray.empty p hp
 rw [he] at this
 exact ⟨this.1,this.2.1⟩
structure Smv (σ:Mem) (o:List Nat) (x r:Nat) (s:ByteArray) (p:Nat) (most:Int) (out:List UInt8) (v:AV):Prop where
 eqo:o=x::r::z3 v
 xr:x≠r
 xv:x ∉ z3 v
 rv:r ∉ z3 v
 gx:σ.get x=some (.rw [.ptr r 0,v,.int .i64 most])
 gr:σ.get r=some (rdP s p)
 own:z1Q 1 σ v (bl out) out.length
 le:p<=8*s.size
 lt:∀ b∈o,b<σ.next
 room:out=[]\/(out.length:Int)<=most
 ms : -9223372036854775808<=most/\most<=2^40
 sz:s.size<=2^50
def Sm (σ:Mem) (o:List Nat) (x r:Nat) (s:ByteArray) (p:Nat) (most:Int) (out:List UInt8):Prop:=∃ v,Smv σ o x r s p most out v
section
variable {σ σ':Mem} {o:List Nat} {x r p:Nat} {s:ByteArray} {most:Int} {out:List UInt8} {v:AV}
theorem Smv.keep (h:Smv σ o x r s p most out v) (hg:∀ b∈o,σ'.get b=σ.get b) (hn:σ.next<=σ'.next):Smv σ' o x r s p most out v:=by
 obtain ⟨rfl,h2,h3,h4,h5,h6,h7,h8,h9,h10,h11,h12⟩:=h
 exact ⟨rfl,h2,h3,h4,(hg x (by simp)).trans h5,(hg r (by simp)).trans h6,h7.keep λb hb=>hg b (by simp [hb]),h8,λb hb=>Nat.lt_of_lt_of_le (h9 b hb) hn,h10,h11,h12⟩
theorem Sm.keep (h:Sm σ o x r s p most out) (hg:∀ b∈o,σ'.get b=σ.get b) (hn:σ.next<=σ'.next):Sm σ' o x r s p most out:=by
 obtain ⟨v,h⟩:=h;exact ⟨v,h.keep hg hn⟩
theorem Smv.bump (h:Smv σ o x r s p most out v) (k:Nat):Smv (σ.bump k) o x r s p most out v:=h.keep (λ_ _=>rfl) (Nat.le_add_right _ _)
theorem Sm.bump (h:Sm σ o x r s p most out) (k:Nat):Sm (σ.bump k) o x r s p most out:=h.keep (λ_ _=>rfl) (Nat.le_add_right _ _)
theorem Smv.g0 (h:Smv σ o x r s p most out v):Grow o o σ σ:=.refl h.lt
theorem Smv.read {q:Nat} (h:Smv σ o x r s p most out v) (h1:σ'.get r=some (rdP s q)) (h2:Mem.Only [r] σ σ') (hq:q<=8*s.size):Smv σ' o x r s q most out v/\Grow o o σ σ':=by
 obtain ⟨rfl,g2,g3,g4,g5,g6,g7,g8,g9,g10,g11,g12⟩:=h
 have k:∀ b,b<σ.next->b≠r->σ'.get b=σ.get b:=λb hb hn=>h2.get b hb (by simpa using hn)
 refine ⟨⟨rfl,g2,g3,g4,(k x (g9 x (by simp)) g2).trans g5,h1,g7.keep λb hb=>k b (g9 b (by simp [hb])) λe=>g4 (e ▸ hb),hq,λb hb=>Nat.lt_of_lt_of_le (g9 b hb) h2.next,g10,g11,g12⟩,⟨h2.next,λb hb hn=>?_⟩,λb hb=>.inl hb,λb hb=>Nat.lt_of_lt_of_le (g9 b hb) h2.next⟩
 exact k b hb λe=>hn (by simp [e])
theorem Smv.reach (h:Smv σ o x r s p most out v):s.size<=2^50:=h.sz
theorem Smv.bits {n:Nat} (h:Smv σ o x r s p most out v) (hn:n<=24):z1 PG zC [.ptr r 0,.int .i64 (n:Nat)] σ λw σ'=>Grow o o σ σ'/\match zZ n s p with
 | .ok (a,q)=>w=.tup [.int .i64 (a:Nat),.int .i64 0]/\Smv σ' o x r s q most out v
 | .error e=>w=.tup [.int .i64 0,.int .i64 e]:=by
 refine (z80 h.reach h.gr h.le).mono ?_
 rintro _ σ' ⟨rfl,h1,h2⟩
 rw [zef h.le hn] at h1 ⊢
 cases e:zZ n s p with
 | error z=>
   rw [e] at h1
   exact ⟨(h.read h1 h2 h.le).2,rfl⟩
 | ok y=>
   obtain ⟨a,q⟩:=y
   rw [e] at h1
   have:=h.read h1 h2 (Fr.le (.bits n) h.le e).2
   exact ⟨this.2,rfl,this.1⟩
theorem Smv.bytes {n:Nat} (h:Smv σ o x r s p most out v):z1 PG z14 [.ptr r 0,.int .i64 (n:Nat)] σ λw σ'=>Grow o o σ σ'/\match z34 n s p with
 | .ok (a,q)=>w=.tup [.str a,.int .i64 0]/\Smv σ' o x r s q most out v
 | .error e=>w=.tup [.str ByteArray.empty,.int .i64 e]:=by
 refine (zbK h.reach h.gr h.le).mono ?_
 rintro _ σ' ⟨rfl,h1,h2⟩
 rw [zc8 h.le] at h1 ⊢
 cases e:z34 n s p with
 | error z=>
   rw [e] at h1
   exact ⟨(h.read h1 h2 (by have:=h.le;show 8*((p+7) / 8)<=_;omega)).2,rfl⟩
 | ok y=>
   obtain ⟨a,q⟩:=y
   rw [e] at h1
   have:=h.read h1 h2 (Fr.le (.bytes n) h.le e).2
   exact ⟨this.2,rfl,this.1⟩
theorem Smv.next {lo hi t:Nat} {L:List Int} (h:Smv σ o x r s p most out v) (hL:lens L) (ht:zcK lo hi L σ t) (hhi:hi<=σ.next) (hr:r<lo\/hi<=r):z1 PG z11 [.ptr t 0,.ptr r 0] σ λw σ'=>Grow o o σ σ'/\Mem.Only [r] σ σ'/\match z3o L s p with
 | .ok (a,q)=>w=.tup [.int .i64 a,.int .i64 0]/\Smv σ' o x r s q most out v
 | .error e=>∃ c,w=.tup [.int .i64 c,.int .i64 e]:=by
 refine (zmU hL ht hhi hr h.reach h.gr h.le).mono ?_
 rintro _ σ' ⟨rfl,h1,h2⟩
 have hle:=zeZ (L:=L) (s:=s) (z1T L) 1 0 h.le
 have hR:=h.read h1 h2 hle
 unfold z3o
 by_cases h0:(dec L s (z1T L) 1 0 p).2.1=0
 · rw [if_pos h0]
   exact ⟨hR.2,h2,by rw [h0],hR.1⟩
 · rw [if_neg h0]
   exact ⟨hR.2,h2,_,rfl⟩
theorem Smv.push {bytes:List UInt8} {σ2:Mem} {id m:Nat} {src:AV} {K:Mem->Prop} (h:Smv σ o x r s p most out v) (s2:σ.Same σ2) (hx:∀ K:Nat->List AV->Prop,K m (bl bytes)->zlj σ2 1 src K) (hm:bytes.length=m) (hid:σ.next<=id/\id<σ2.next) (hroom:bytes=[]\/(out.length:Int)+bytes.length<=most)
 (hk:∀ o' v' σ',Smv σ' o' x r s p most (out++bytes) v'->Grow o o' σ σ'->σ'.next=σ2.next->K σ'):apW 1 1 id σ2 v src λv' σ3=>nfW 1 (.ptr x 0) λw=>stW 1 σ3 w v' K:=by
 obtain ⟨rfl,g2,g3,g4,g5,g6,g7,g8,g9,g10,g11,g12⟩:=h
 have hm47:out.length+m<=2^40:=by
  rcases hroom with rfl | hr
  · rcases g10 with rfl | h
    · simp at hm ⊢;omega
    · simp at hm;omega
  · omega
 refine z1Q.append (n:=out.length) (m:=m) (cs:=bl out) (c:=bl bytes) (g7.keep λb hb=>s2.get b (g9 b (by simp [hb]))) hx (λe=>by rw [List.length_eq_zero_iff.1 (hm.trans e)];rfl) (by rw [z5K];omega) (zcI _) (zcI _) (by omega) (λhb=>by have:=g9 id (by simp [hb]);omega) ?_
 intro v' σ3 own3 hn3 hg3 hb3
 rw [z8Q] at own3
 have hx1:x<σ.next:=g9 x (by simp)
 have hr1:r<σ.next:=g9 r (by simp)
 have k3:∀ b,b<σ.next->b ∉ z3 v->σ3.get b=σ.get b:=λb hb hn=>by rw [hg3 b hn (by omega),s2.get b hb]
 have x3:σ3.get x=some (.rw [.ptr r 0,v,.int .i64 most]):=by rw [k3 x hx1 g3];exact g5
 have hv':∀ b∈z3 v',(b∈z3 v/\b<σ.next)\/b=id:=λb hb=>(hb3 b hb).imp (λh=>⟨h,g9 b (by simp [h])⟩) λh=>h
 have xv':x ∉ z3 v':=λhb=>by rcases hv' x hb with h | h;exact g3 h.1;omega
 have rv':r ∉ z3 v':=λhb=>by rcases hv' r hb with h | h;exact g4 h.1;omega
 refine To.go ?_
 refine st1 x3 (by simp) own3.rdO.one ?_
 refine hk (x::r::z3 v') v' _ ⟨rfl,g2,xv',rv',by rw [gS'];rfl,?_,?_,g8,?_,?_,g11,g12⟩ ⟨⟨?_,?_⟩,?_,?_⟩ hn3
 · rw [Mem.get_put_ne _ g2.symm,k3 r hr1 g4];exact g6
 · rw [List.length_append,hm]
   exact own3.keep λb hb=>by rw [Mem.get_put_ne _ (by rintro rfl;exact xv' hb)]
 · intro b hb
   rw [Mem.next_put,hn3]
   simp only [List.mem_cons] at hb
   have:=s2.next
   rcases hb with rfl | rfl | hb
   · omega
   · omega
   · rcases hv' b hb with h | h<;>omega
 · rcases hroom with rfl | hr
   · rw [List.append_nil];exact g10
   · right;rw [List.length_append];omega
 · rw [Mem.next_put,hn3];exact s2.next
 · intro b hb hn
   simp only [List.mem_cons,not_or] at hn
   rw [Mem.get_put_ne _ hn.1,k3 b hb hn.2.2]
 · intro b hb
   simp only [List.mem_cons] at hb ⊢
   rcases hb with h | h | h
   · exact .inl (.inl h)
   · exact .inl (.inr (.inl h))
   · rcases hv' b h with h | h
     · exact .inl (.inr (.inr h.1))
     · exact .inr (by omega)
 · intro b hb
   rw [Mem.next_put,hn3]
   simp only [List.mem_cons] at hb
   have:=s2.next
   rcases hb with rfl | rfl | hb
   · omega
   · omega
   · rcases hv' b hb with h | h<;>omega
end
end
end Go.Vit
end
section
/- Inflate's walk 2 (as in the third seat) -/
set_option maxRecDepth 20000
namespace Go.Vit
open Go.Proofs
section
section
variable {σ σ':Mem} {o:List Nat} {x r p:Nat} {s:ByteArray} {most:Int} {out:List UInt8} {v:AV}
theorem z8u {n:Nat} (h:Smv σ o x r s p most out v) (hn:n<=2^40):z1 PG z0q [.ptr x 0,.int .i64 (n:Nat)] σ λw σ'=>w=.int .i64 (if most-out.length<n then 5 else 0)/\σ.Same σ':=by
 refine z8g λlive=>?_
 unfold z4T
 have hm:=h.ms
 have hb:(out.length:Int)<=2^40/\(most<0->out.length=0):=by
  rcases h.room with h' | h'
  · subst h';exact ⟨by simp,λ_=>rfl⟩
  · exact ⟨by omega,λ_=>by omega⟩
 refine To.go ?_
 refine To.go ?_
 refine ldrw h.gx (v:=.int .i64 most) rfl ?_
 refine To.go ?_
 refine To.go ?_
 refine ldrw h.gx (v:=v) rfl ?_
 refine h.own.rdO.len ?_
 refine z6 (by omega) ?_
 refine ifD (λhlt=>?_) (λhge=>?_)
 · rw [if_pos hlt];exact ⟨rfl,(Mem.Same.refl σ).bump _⟩
 · rw [if_neg hge];exact ⟨rfl,(Mem.Same.refl σ).bump _⟩
theorem zcu (h:Smv σ o x r s p most out v):z1 PG z1j [.ptr x 0] σ λw σ'=>Grow o o σ σ'/\match zh7 s p with
 | .ok (a,q)=>w=.tup [.int .i64 (a:Nat),.int .i64 0]/\a<65536/\Smv σ' o x r s q most out v
 | .error e=>w=.tup [.int .i64 0,.int .i64 e]:=by
 refine z8f λlive=>?_
 unfold z4O
 refine To.go ?_
 refine ldrw h.gx (v:=.ptr r 0) rfl ?_
 refine z0 (Smv.bytes (n:=2) (h.bump 12)) ?_
 rintro w σ1 ⟨g,hw⟩
 replace g:=g.ob
 unfold zh7
 cases e:z34 2 s p with
 | error z=>
   rw [e] at hw
   subst hw
   have hz:=Fr.ne (.bytes 2) h.le e
   rw [za e]
   repeat (first | refine To.go ?_ | ((with_reducible apply opt);(· (rfl))) | with_reducible refine ifT (by omega) ?_)
   exact ⟨g.bump _,rfl⟩
 | ok y=>
   obtain ⟨a,q⟩:=y
   rw [e] at hw
   obtain ⟨rfl,h1⟩:=hw
   rw [z9 e]
   have ha:a.size=2:=by
    unfold z34 at e
    split at e
    · exact absurd e (by simp)
    · injection e with e
      rw [<- (Prod.mk.inj e).1,size_extract];omega
   have b0:=zF a 0
   have b1:=zF a 1
   repeat (first | refine To.go ?_ | with_reducible refine And.intro (by omega) ?_ | ((with_reducible apply opt);(· (rfl))) | with_reducible refine ifF (not_not_intro rfl) ?_)
   rw [show ((ze a 1:Nat):Int)*256=((ze a 1*256:Nat):Int) from by omega,ziL (by omega) (by omega),Int.toNat_natCast,Int.toNat_natCast]
   refine ⟨g.bump _,rfl,?_,h1.bump _⟩
   have:=z7L (a:=ze a 0) (b:=ze a 1) (n:=8) (by omega)
   rw [show (2:Nat)^8=256 from rfl] at this
   rw [this];omega
theorem zp0 {a b:Nat} (ha:a<65536) (hb:b<65536):zB .xor .i64 (a:Int) (b:Int)=((a ^^^ b:Nat):Int):=by
 show IntKind.i64.wrap (((BitVec.ofInt 64 (a:Int) ^^^ BitVec.ofInt 64 (b:Int)).toNat:Nat):Int)=_
 rw [show BitVec.ofInt 64 (a:Int)=BitVec.ofNat 64 a from by simp,show BitVec.ofInt 64 (b:Int)=BitVec.ofNat 64 b from by simp,BitVec.toNat_xor,BitVec.toNat_ofNat,BitVec.toNat_ofNat,Nat.mod_eq_of_lt (by omega),Nat.mod_eq_of_lt (by omega)]
 have:a ^^^ b<2^16:=Nat.xor_lt_two_pow (by omega) (by omega)
 rw [IntKind.wrap_i64];omega
theorem zeJ (h:Smv σ o x r s p most out v):z1 PG z21 [.ptr x 0] σ λw σ'=>∃ o',Grow o o' σ σ'/\match z6L most out s p with
 | .ok (a,q)=>w=.int .i64 0/\Sm σ' o' x r s q most a
 | .error e=>w=.int .i64 e:=by
 refine z7e λlive=>?_
 unfold z47
 refine z0 (zcu (h.bump 8)) ?_
 rintro w σ1 ⟨g1,hw⟩
 replace g1:=g1.ob
 unfold z6L
 cases e:zh7 s p with
 | error z=>
   rw [e] at hw
   subst hw
   have hz:=Fr.ne .pair h.le e
   rw [za e]
   repeat (first | refine To.go ?_ | ((with_reducible apply opt);(· (rfl))) | with_reducible refine ifT (by omega) ?_)
   exact ⟨o,g1.bump _,rfl⟩
 | ok y=>
   obtain ⟨n,q⟩:=y
   rw [e] at hw
   obtain ⟨rfl,hn,h1⟩:=hw
   rw [z9 e]
   repeat (first | refine To.go ?_ | ((with_reducible apply opt);(· (rfl))) | with_reducible refine ifF (not_not_intro rfl) ?_)
   refine z0 (zcu (h1.bump 9)) ?_
   rintro w σ2 ⟨g2,hw⟩
   replace g2:=g1.trans g2.ob
   clear e
   cases e:zh7 s q with
   | error z=>
     rw [e] at hw
     subst hw
     have hz:=Fr.ne .pair h1.le e
     rw [za e]
     repeat (first | refine To.go ?_ | ((with_reducible apply opt);(· (rfl))) | with_reducible refine ifT (by omega) ?_)
     exact ⟨o,g2.bump _,rfl⟩
   | ok y=>
     obtain ⟨m,q2⟩:=y
     rw [e] at hw
     obtain ⟨rfl,hm,h2⟩:=hw
     rw [z9 e]
     repeat (first | refine To.go ?_ | ((with_reducible apply opt);(· (rfl))) | with_reducible refine ifF (not_not_intro rfl) ?_)
     rw [zp0 hn hm]
     by_cases hx:n ^^^ m≠65535
     · rw [if_pos hx]
       refine ifD (λ_=>?_) (λh=>absurd (λe=>hx (by omega)) h)
       exact ⟨o,g2.bump _,rfl⟩
     · rw [if_neg hx]
       refine ifD (λh=>absurd (Decidable.not_not.1 hx) λe=>h (by omega)) (λ_=>?_)
       refine To.go ?_
       refine ldrw h2.gx (v:=.ptr r 0) rfl ?_
       refine z0 (Smv.bytes (h2.bump 17)) ?_
       rintro w σ3 ⟨g3,hw⟩
       replace g3:=g2.trans g3.ob
       clear e
       cases e:z34 n s q2 with
       | error z=>
         rw [e] at hw
         subst hw
         have hz:=Fr.ne (.bytes n) h2.le e
         rw [za e]
         repeat (first | refine To.go ?_ | ((with_reducible apply opt);(· (rfl))) | with_reducible refine ifT (by omega) ?_)
         exact ⟨o,g3.bump _,rfl⟩
       | ok y=>
         obtain ⟨b,q3⟩:=y
         rw [e] at hw
         obtain ⟨rfl,h3⟩:=hw
         rw [z9 e]
         have hb:b.size=n:=by
          unfold z34 at e
          split at e
          · exact absurd e (by simp)
          · injection e with e
            rw [<- (Prod.mk.inj e).1,size_extract];omega
         repeat (first | refine To.go ?_ | ((with_reducible apply opt);(· (rfl))) | with_reducible refine ifF (not_not_intro rfl) ?_)
         refine z0 (z8u (n:=n) (h3.bump 6) (by omega)) ?_
         rintro w σ4 ⟨rfl,s4⟩
         replace s4:=s4.ob
         have h4:=h3.keep (λb hb=>s4.get b (h3.lt b hb)) s4.next
         have g4:=g3.then s4
         unfold z4K
         by_cases hr:most-out.length<n
         · rw [if_pos hr,if_pos hr]
           repeat (first | refine To.go ?_ | with_reducible refine ifT (by omega) ?_)
           exact ⟨o,g4.bump _,rfl⟩
         · rw [if_neg hr,if_neg hr]
           repeat (first | refine To.go ?_ | with_reducible refine ifF (not_not_intro rfl) ?_)
           refine ldrw h4.gx (v:=v) rfl ?_
           refine h4.push (bytes:=zI b) (m:=n) ((Mem.Same.refl σ4).bump 12) (λK hK=>zin K (by rw [hb];exact hK)) (by rw [zL,hb]) ⟨by omega,by simp only [Mem.next_bump];omega⟩ (.inr (by rw [zL];omega)) ?_
           intro o' v' σ5 h5 g5 n5
           exact ⟨o',(g4.trans g5).bump _,rfl,v',h5.bump _⟩
end
end
end Go.Vit
end
section
/- Inflate's walk 3 (as in the third seat) -/
set_option maxRecDepth 20000
namespace Go.Vit
open Go.Proofs
section
section
variable {σ σ':Mem} {o:List Nat} {x r p:Nat} {s:ByteArray} {most:Int} {out:List UInt8} {v:AV}
theorem zoH {L:List Int} {s:ByteArray}:∀ (k n c p:Nat),(dec L s k n c p).2.1=0->∃ i:Nat,(dec L s k n c p).1=i/\i<L.length
 | 0,_,_,_,h=>by unfold dec at h;exact absurd h (by simp)
 | k+1,n,c,p,h=>by
   unfold dec at h ⊢
   by_cases h1:8*s.size<=p
   · rw [if_pos h1] at h;exact absurd h (by simp)
   · rw [if_neg h1] at h ⊢
     cases e:fnd L n (2*c+z2T s p) with
     | some i=>
       refine ⟨i,rfl,?_⟩
       unfold fnd at e
       have:=List.mem_of_find?_eq_some e
       exact List.mem_range.1 this
     | none=>
       rw [e] at h
       exact zoH k _ _ _ h
theorem zgo {L:List Int} {q:Nat} {c:Int} (h:z3o L s p=.ok (c,q)):∃ i:Nat,c=i/\i<L.length:=by
 unfold z3o at h
 split at h
 · rename_i h0
   injection h with h
   rw [<- (Prod.mk.inj h).1]
   exact zoH _ _ _ _ h0
 · exact absurd h (by simp)
theorem z9Z {n a q:Nat} (h:zZ n s p=.ok (a,q)):a<2^n:=by
 unfold zZ at h
 split at h
 · exact absurd h (by simp)
 · injection h with h
   rw [<- (Prod.mk.inj h).1]
   exact zcr _ _ _
theorem ziB:∀ (ws:List Nat) (acc:List Int) {p q:Nat} {l:List Int},zgG ws acc s p=.ok (l,q)->∃ vs:List Nat,l=acc++vs.map (λ(n:Nat)=>(n:Int))/\vs.length=ws.length/\∀ i (h:i<ws.length) (h':i<vs.length),vs[i]<2^ws[i]
 | [],acc,p,q,l,h=>by
   unfold zgG z0i at h
   injection h with h
   exact ⟨[],by rw [<- (Prod.mk.inj h).1];simp,rfl,λi h=>absurd h (by simp)⟩
 | w::ws,acc,p,q,l,h=>by
   unfold zgG at h
   cases e:zZ w s p with
   | error z=>rw [za e] at h;exact absurd h (by simp)
   | ok y=>
     obtain ⟨a,q1⟩:=y
     rw [z9 e] at h
     obtain ⟨vs,h1,h2,h3⟩:=ziB ws _ h
     refine ⟨a::vs,by rw [h1];simp,by simp [h2],λi hi hi'=>?_⟩
     cases i with
     | zero=>exact z9Z e
     | succ i=>exact h3 i (by simpa using hi) (by simpa using hi')
theorem z8F {a:AV} {ws:List Nat} (h:Smv σ o x r s p most out v) (ha:RdO 1 σ a (ic (ws.map λ(n:Nat)=>(n:Int))) ws.length) (hao:∀ b∈z3 a,b ∉ o/\b<σ.next) (hw:∀ w∈ws,w<=24) (hl:ws.length<=10) :
 z1 PG z0J [.ptr x 0,a] σ λw σ'=>Grow o o σ σ'/\match zgG ws [] s p with
 | .ok (l,q)=>∃ c,w=.tup [c,.int .i64 0]/\RdO 1 σ' c (ic l) l.length/\(∀ b∈z3 c,σ.next<=b/\b<σ'.next)/\Smv σ' o x r s q most out v
 | .error e=>∃ c,w=.tup [c,.int .i64 e]:=by
 refine z6N λlive=>?_
 unfold z3I
 refine ha.len ?_
 obtain ⟨D,hD⟩:∃ D,zgG ws [] s p=D:=⟨_,rfl⟩
 rw [hD]
 refine loop2 (λ(i:Nat) (u:AV) (y:Int) σ'=>y=i/\i<=ws.length/\∃ acc q,zgG (ws.drop i) acc s q=D/\acc.length=i/\Own 1 σ σ' u (ic acc) acc.length/\Smv σ' o x r s q most out v/\Mem.Only o σ σ') (λi=>ws.length-i) 0 ⟨rfl,by omega,[],p,hD,rfl,Own.nil 1 _ _,h.bump _,⟨by simp only [Mem.next_bump];omega,λ_ _ _=>rfl⟩⟩ ?_
 rintro i u _ σ1 ⟨rfl,hi,acc,q,hd,hacc,own,h1,o1⟩
 unfold z2x
 have n1:=o1.next
 have gr1:Grow o o σ σ1:=⟨o1,λb hb=>.inl hb,h1.lt⟩
 refine ifD (λhlt=>?_) (λhge=>?_)
 · have hil:i<ws.length:=by omega
   obtain ⟨ba,baz,ca,rfl,hget⟩:=(ha.keep λb hb=>o1.get b (hao b hb).2 (hao b hb).1).iat (L:=ws.map λ(n:Nat)=>(n:Int)) (i:=i) (x:=(ws[i]:Nat)) (by rw [List.getElem?_map,List.getElem?_eq_getElem hil];rfl) hil (by simpa using hil)
   have hw':=hw _ (List.getElem_mem hil)
   rw [List.drop_eq_getElem_cons hil] at hd
   unfold zgG at hd
   obtain ⟨wi,hwi⟩:∃ n,ws[i]=n:=⟨_,rfl⟩
   rw [hwi] at hd hget hw'
   refine To.go ?_
   refine And.intro hil ?_
   refine To.go ?_
   refine hget _ ?_
   refine To.go ?_
   refine To.go ?_
   refine ldrw h1.gx (v:=.ptr r 0) rfl ?_
   refine z0 (Smv.bits (n:=wi) (h1.bump 15) hw') ?_
   rintro w σ2 ⟨g2',hw2⟩
   have n12:=g2'.only.next
   simp only [Mem.next_bump] at n12
   have own2:=own.only g2'.ob.only λb hb hm=>by have:=own.2 b hb;have:=h.lt b hm;omega
   have g2:=gr1.trans g2'.ob
   have o2:=g2.only
   cases e:zZ wi s q with
   | error z=>
     rw [e] at hw2
     subst hw2
     have hz:=Fr.ne (.bits wi) h1.le e
     rw [za e] at hd
     repeat (first | refine To.go ?_ | ((with_reducible apply opt);(· (rfl))) | with_reducible refine ifT (by omega) ?_)
     subst hd
     exact ⟨g2.bump _,_,rfl⟩
   | ok y=>
     obtain ⟨a,q2⟩:=y
     rw [e] at hw2
     obtain ⟨rfl,h2⟩:=hw2
     rw [z9 e] at hd
     repeat (first | refine To.go ?_ | ((with_reducible apply opt);(· (rfl))) | with_reducible refine ifF (not_not_intro rfl) ?_)
     refine own2.pushO (os:=o) (m:=1) (c:=ic [(a:Int)]) o2 rfl (by omega) (by omega) (by omega) rfl rfl (z3s _) (by omega) ?_ (by simp only [Mem.next_put,Mem.next_bump];omega)
     intro u' σ3 own3 o3 hn3 o23 hb3
     rw [<- z3k] at own3
     refine z6 (by omega) ?_
     have n3:=o3.next
     refine again ⟨i+1,⟨by omega,by omega,acc++[(a:Int)],q2,hd,by simp;omega,?_,h2.keep (λb hb=>?_) ?_,o3.bump _⟩,by omega⟩
     · rw [List.length_append]
       exact ⟨own3.1.keep λ_ _=>rfl,λb hb=>by have:=own3.2 b hb;simp only [Mem.next_bump];omega⟩
     · have:=h.lt b hb
       rw [Mem.get_bump,o23.get b (by omega) λhm=>by have:=own2.2 b hm;omega]
     · have:=o23.next
       simp only [Mem.next_bump];omega
 · obtain rfl:i=ws.length:=by omega
   rw [List.drop_length] at hd
   unfold zgG z0i at hd
   subst hd
   exact ⟨gr1.bump _,u,rfl,own.1.rdO.keep λ_ _=>rfl,λb hb=>by have:=own.2 b hb;simp only [Mem.next_bump];omega,h1.bump _⟩
end
end
end Go.Vit
end
section
/- Inflate's walk 4 (as in the third seat) -/
set_option maxRecDepth 20000
namespace Go.Vit
open Go.Proofs
section
section
variable {σ σ':Mem} {o:List Nat} {x r p:Nat} {s:ByteArray} {most:Int} {out:List UInt8} {v:AV}
theorem zeT {c:Nat} (h:Smv σ o x r s p most out v) (hc:257<=c) (hc2:c<2^32):z1 PG z1X [.ptr x 0,.int .i64 (c:Nat)] σ λw σ'=>Grow o o σ σ'/\match zmW c s p with
 | .ok (n,q)=>w=.tup [.int .i64 (n:Nat),.int .i64 0]/\n<=2^20/\Smv σ' o x r s q most out v
 | .error e=>∃ k,w=.tup [.int .i64 k,.int .i64 e]:=by
 refine z7p λlive=>?_
 unfold z4b zmW
 refine z6 (by omega) ?_
 have g0:=h.g0
 refine ifD (λh1=>?_) (λh1=>?_)
 · rw [if_pos (by omega)]
   exact ⟨g0.bump _,_,rfl⟩
 rw [if_neg (by omega)]
 refine ifD (λh2=>?_) (λh2=>?_)
 · rw [if_pos (by omega)]
   exact ⟨g0.bump _,rfl,by omega,h.bump _⟩
 rw [if_neg (by omega)]
 refine ifD (λh3=>?_) (λh3=>?_)
 · rw [if_pos (by omega)]
   refine z6 (by omega) ?_
   exact ⟨g0.bump _,by rw [show ((c:Int)-257+3)=((c-257+3:Nat):Int) from by omega],by omega,h.bump _⟩
 rw [if_neg (by omega)]
 obtain ⟨d,hd⟩:∃ d,c-257=d:=⟨_,rfl⟩
 rw [hd,show ((c:Int)-257)=(d:Nat) from by omega]
 have hd8:8<=d/\d<28:=by omega
 obtain ⟨m,hm⟩:∃ m,d / 4-1=m:=⟨_,rfl⟩
 rw [hm]
 have hm5:1<=m/\m<=5:=by omega
 have hp:2^m<=2^5:=z1D hm5.2
 repeat (first | refine To.go ?_ | with_reducible refine And.intro (by omega) ?_)
 rw [show ((d:Int) / 4-1)=(m:Nat) from by omega]
 refine ldrw h.gx (v:=.ptr r 0) rfl ?_
 refine z0 (Smv.bits (n:=m) (h.bump 29) (by omega)) ?_
 rintro w σ1 ⟨g1,hw⟩
 replace g1:=g1.ob
 have hmul:(4+d % 4)*2^m<=7*2^m:=Nat.mul_le_mul_right _ (by omega)
 have hcast:(4+(d:Int) % 4)*2^m=(((4+d % 4)*2^m:Nat):Int):=by push_cast;rfl
 obtain ⟨k,hk⟩:∃ k,(4+d % 4)*2^m=k:=⟨_,rfl⟩
 rw [hk] at hmul hcast
 rw [hk]
 cases e:zZ m s p with
 | error z=>
   rw [e] at hw
   subst hw
   have hz:=Fr.ne (.bits m) h.le e
   have hz3:z=3:=by unfold zZ at e;split at e;injection e with e;exact e.symm;exact absurd e (by simp)
   rw [za e]
   repeat (first | refine To.go ?_ | with_reducible refine And.intro (by omega) ?_ | ((with_reducible apply opt);(· (rfl))))
   rw [Int.toNat_natCast,hcast]
   repeat (first | refine To.go ?_ | with_reducible refine And.intro (by omega) ?_)
   exact ⟨g1.bump _,_,rfl⟩
 | ok y=>
   obtain ⟨a,q⟩:=y
   rw [e] at hw
   obtain ⟨rfl,h4⟩:=hw
   rw [z9 e]
   have ha:=z9Z e
   repeat (first | refine To.go ?_ | with_reducible refine And.intro (by omega) ?_ | ((with_reducible apply opt);(· (rfl))))
   rw [Int.toNat_natCast,hcast]
   repeat (first | refine To.go ?_ | with_reducible refine And.intro (by omega) ?_)
   refine ⟨g1.bump _,?_,by omega,h4.bump _⟩
   rw [show ((k:Int)+3+a)=((k+3+a:Nat):Int) from by omega]
theorem zcP {c:Nat} (h:Smv σ o x r s p most out v) (hc2:c<2^32):z1 PG z1p [.ptr x 0,.int .i64 (c:Nat)] σ λw σ'=>Grow o o σ σ'/\match zcQ c s p with
 | .ok (n,q)=>w=.tup [.int .i64 (n:Nat),.int .i64 0]/\1<=n/\n<=2^20/\Smv σ' o x r s q most out v
 | .error e=>∃ k,w=.tup [.int .i64 k,.int .i64 e]:=by
 refine z6i λlive=>?_
 unfold z3x zcQ
 have g0:=h.g0
 refine ifD (λh1=>?_) (λh1=>?_)
 · rw [if_pos (by omega)]
   exact ⟨g0.bump _,_,rfl⟩
 rw [if_neg (by omega)]
 refine ifD (λh3=>?_) (λh3=>?_)
 · rw [if_pos (by omega)]
   refine z6 (by omega) ?_
   exact ⟨g0.bump _,rfl,by omega,by omega,h.bump _⟩
 rw [if_neg (by omega)]
 have hd8:4<=c/\c<30:=by omega
 obtain ⟨m,hm⟩:∃ m,c / 2-1=m:=⟨_,rfl⟩
 rw [hm]
 have hm5:1<=m/\m<=13:=by omega
 have hp:2^m<=2^13:=z1D hm5.2
 repeat (first | refine To.go ?_ | with_reducible refine And.intro (by omega) ?_)
 rw [show ((c:Int) / 2-1)=(m:Nat) from by omega]
 refine ldrw h.gx (v:=.ptr r 0) rfl ?_
 refine z0 (Smv.bits (n:=m) (h.bump 23) (by omega)) ?_
 rintro w σ1 ⟨g1,hw⟩
 replace g1:=g1.ob
 have hmul:(2+c % 2)*2^m<=3*2^m:=Nat.mul_le_mul_right _ (by omega)
 have hcast:(2+(c:Int) % 2)*2^m=(((2+c % 2)*2^m:Nat):Int):=by push_cast;rfl
 obtain ⟨k,hk⟩:∃ k,(2+c % 2)*2^m=k:=⟨_,rfl⟩
 rw [hk] at hmul hcast
 rw [hk]
 cases e:zZ m s p with
 | error z=>
   rw [e] at hw
   subst hw
   have hz:=Fr.ne (.bits m) h.le e
   have hz3:z=3:=by unfold zZ at e;split at e;injection e with e;exact e.symm;exact absurd e (by simp)
   rw [za e]
   repeat (first | refine To.go ?_ | with_reducible refine And.intro (by omega) ?_ | ((with_reducible apply opt);(· (rfl))))
   rw [Int.toNat_natCast,hcast]
   repeat (first | refine To.go ?_ | with_reducible refine And.intro (by omega) ?_)
   exact ⟨g1.bump _,_,rfl⟩
 | ok y=>
   obtain ⟨a,q⟩:=y
   rw [e] at hw
   obtain ⟨rfl,h4⟩:=hw
   rw [z9 e]
   have ha:=z9Z e
   repeat (first | refine To.go ?_ | with_reducible refine And.intro (by omega) ?_ | ((with_reducible apply opt);(· (rfl))))
   rw [Int.toNat_natCast,hcast]
   repeat (first | refine To.go ?_ | with_reducible refine And.intro (by omega) ?_)
   refine ⟨g1.bump _,?_,by omega,by omega,h4.bump _⟩
   rw [show ((k:Int)+1+a)=((k+1+a:Nat):Int) from by omega]
def zen (j:Nat):Int:=if 280<=j\/j<144 then 8 else if j<256 then 9 else 7
theorem zmH:ziU=arr zen 288:=rfl
theorem zgE (σ:Mem):z1 PG z5I [] σ λw σ'=>∃ b c,w=.tup [.slice b 0 288 (.ex 288),.slice c 0 32 (.ex 32)]/\σ'.get b=some (.rw (ic ziU))/\σ'.get c=some (.rw (ic zkT))/\(σ.next<=b/\b<σ'.next)/\(σ.next<=c/\c<σ'.next)/\σ.Same σ':=by
 refine zcR λlive=>?_
 unfold z8l
 repeat (first | refine To.go ?_ | with_reducible refine And.intro (by omega) ?_)
 obtain ⟨b,hb⟩:∃ b,σ.next+2=b:=⟨_,rfl⟩
 obtain ⟨c,hc⟩:∃ c,σ.next+3=c:=⟨_,rfl⟩
 rw [hb,hc]
 refine loop1 (λ(i:Nat) (y:Int) σ'=>y=i/\i<=288/\σ.Same σ'/\c<σ'.next/\σ'.get b=some (.rw (ic (arr (λj=>if j<i then zen j else 0) 288)))/\σ'.get c=some (.rw (ic (arr (λ_=>0) 32)))) (λi=>288-i) 0 ⟨rfl,by omega,by repeat (with_reducible first | exact Mem.Same.refl _ | refine Mem.Same.bump ?_ _ | refine Mem.Same.put ?_ (by omega) _),by simp only [Mem.next_bump,Mem.next_put];omega,?_,?_⟩ ?_
 · rw [Mem.get_bump,Mem.get_put_ne _ (by omega),gS']
   rw [z0e (f:=λj=>if j<0 then zen j else 0) (g:=λ_=>0) λj hj=>if_neg (by omega)];rfl
 · rw [Mem.get_bump,gS'];rfl
 rintro i _ σ1 ⟨rfl,hi,s1,n1,e1,e2⟩
 unfold z6y
 have hset:∀ (z:Int),z=zen i->i<288->(arr (λj=>if j<i then zen j else 0) 288).set i z=arr (λj=>if j<i+1 then zen j else 0) 288:=by
  intro z hz hi
  rw [za0,z0e λj hj=>?_]
  by_cases hji:j=i
  · subst hji;rw [if_pos rfl,if_pos (by omega),hz]
  · rw [if_neg hji]
    by_cases h':j<i
    · rw [if_pos h',if_pos (by omega)]
    · rw [if_neg h',if_neg (by omega)]
 rw [hb,hc]
 have hrest:∀ (z:Int) (k:Nat),i<288->z=zen i->∀ σ2,σ2=(σ1.bump k).put b (some (.rw (ic ((arr (λj=>if j<i then zen j else 0) 288).set i z))))->(iW ((i:Int)+1) λv7=>(λ(x1:Int) (σ_1:Mem)=>Again (∃ j:Nat,(x1=j/\j<=288/\σ.Same σ_1/\c<σ_1.next/\σ_1.get b=some (.rw (ic (arr (λj'=>if j'<j then zen j' else 0) 288)))/\σ_1.get c=some (.rw (ic (arr (λ_=>0) 32))))/\288-j<288-i)) v7 (σ2.bump 2)):=by
  rintro z k hi hz σ2 rfl
  refine z6 (by omega) ?_
  refine again ⟨i+1,⟨by omega,by omega,by repeat (with_reducible first | assumption | refine Mem.Same.bump ?_ _ | refine Mem.Same.put ?_ (by omega) _),by simp only [Mem.next_bump,Mem.next_put];omega,?_,?_⟩,by omega⟩
  · rw [Mem.get_bump,gS',hset z hz hi]
  · rw [Mem.get_bump,Mem.get_put_ne _ (by omega)];exact e2
 refine ifD (λhlt=>?_) (λhge=>?_)
 · have hil:i<288:=by omega
   refine ifD (λh1=>?_) (λh1=>?_)
   · refine zu ?_
     unfold z6r
     refine wrI (m:=i) (σ:=σ1.bump 14) e1 (zW _ _) rfl (by simpa using hil) ?_
     exact hrest 8 14 hil (by unfold zen;rw [if_pos (by omega)]) _ rfl
   refine zu ?_
   unfold z6w
   refine ifD (λh2=>?_) (λh2=>?_)
   · refine wrI (m:=i) (σ:=σ1.bump 14) e1 (zW _ _) rfl (by simpa using hil) ?_
     exact hrest 8 14 hil (by unfold zen;rw [if_pos (by omega)]) _ rfl
   refine zu ?_
   unfold z6o
   refine ifD (λh3=>?_) (λh3=>?_)
   · refine wrI (m:=i) (σ:=σ1.bump 17) e1 (zW _ _) rfl (by simpa using hil) ?_
     exact hrest 9 17 hil (by unfold zen;rw [if_neg (by omega),if_pos (by omega)]) _ rfl
   · refine wrI (m:=i) (σ:=σ1.bump 17) e1 (zW _ _) rfl (by simpa using hil) ?_
     exact hrest 7 17 hil (by unfold zen;rw [if_neg (by omega),if_neg (by omega)]) _ rfl
 · obtain rfl:i=288:=by omega
   have e1:σ1.get b=some (.rw (ic ziU)):=by
    rw [e1,zmH];rw [z0e λj hj=>if_pos hj]
   refine To.go ?_
   refine loop1 (λ(i:Nat) (y:Int) σ'=>y=i/\i<=32/\σ.Same σ'/\c<σ'.next/\σ'.get b=some (.rw (ic ziU))/\σ'.get c=some (.rw (ic (arr (λj=>if j<i then 5 else 0) 32)))) (λi=>32-i) 0 ⟨rfl,by omega,s1.bump _,by simp only [Mem.next_bump];omega,e1,?_⟩ ?_
   · rw [Mem.get_bump,e2,z0e λj hj=>?_]
     rw [if_neg (by omega)]
   clear e1 e2 s1 hset hrest n1 hi hge
   rintro i _ σ1 ⟨rfl,hi,s1,n1,e1,e2⟩
   unfold z6x
   rw [hb,hc]
   refine ifD (λhlt=>?_) (λhge=>?_)
   · have hil:i<32:=by omega
     refine wrI (m:=i) (σ:=σ1.bump 7) e2 (zW _ _) rfl (by simpa using hil) ?_
     refine z6 (by omega) ?_
     refine again ⟨i+1,⟨by omega,by omega,by repeat (with_reducible first | assumption | refine Mem.Same.bump ?_ _ | refine Mem.Same.put ?_ (by omega) _),by simp only [Mem.next_bump,Mem.next_put];omega,?_,?_⟩,by omega⟩
     · rw [Mem.get_bump,Mem.get_put_ne _ (by omega)];exact e1
     · rw [Mem.get_bump,gS',za0,z0e λj hj=>?_]
       by_cases hji:j=i
       · subst hji;rw [if_pos rfl,if_pos (by omega)]
       · rw [if_neg hji]
         by_cases h':j<i
         · rw [if_pos h',if_pos (by omega)]
         · rw [if_neg h',if_neg (by omega)]
   · obtain rfl:i=32:=by omega
     refine ⟨b,c,rfl,e1,?_,⟨by omega,by simp only [Mem.next_bump];omega⟩,⟨by omega,by simp only [Mem.next_bump];omega⟩,s1.bump _⟩
     rw [Mem.get_bump,e2];unfold zkT;rw [z0e λj hj=>if_pos hj]
end
end
end Go.Vit
end
section
/- Inflate's walk 5 (as in the third seat) -/
set_option maxRecDepth 20000
namespace Go.Vit
open Go.Proofs
section
section
variable {σ σ':Mem} {o:List Nat} {x r p:Nat} {s:ByteArray} {most:Int} {out:List UInt8} {v:AV}
theorem ziE {i:Nat} (h:i<19):∃ j:Nat,ordr[i]? = some (j:Int)/\j<19:=by
 have:∀ i:Fin 19,∃ j:Fin 19,ordr[i.val]? = some ((j.val:Nat):Int):=by decide
 obtain ⟨j,hj⟩:=this ⟨i,h⟩
 exact ⟨j.val,hj,j.isLt⟩
theorem zgs {told:Nat} (h:Smv σ o x r s p most out v) (ht:told<=19):z1 PG z2h [.ptr x 0,.int .i64 (told:Nat)] σ λw σ'=>Grow o o σ σ'/\match z7m (ordr.take told) (List.replicate 19 0) s p with
 | .ok (sm,q)=>(chk sm≠0->∃ c,w=.tup [c,.int .i64 (chk sm)])/\(chk sm=0->lens sm/\sm.length=19/\∃ t lo,w=.tup [.ptr t 0,.int .i64 0]/\zcK lo σ'.next sm σ' t/\σ.next<=lo)/\Smv σ' o x r s q most out v
 | .error e=>∃ c,w=.tup [c,.int .i64 e]:=by
 refine z7P λlive=>?_
 unfold z4q
 obtain ⟨lb,hlb⟩:∃ b,σ.next+2=b:=⟨_,rfl⟩
 rw [hlb]
 refine To.go ?_
 obtain ⟨σ1,h1⟩:∃ σ1,σ1=(σ.bump 3).put lb (some (.rw (List.replicate 19 (.int .i64 0)))):=⟨_,rfl⟩
 rw [<- h1]
 have n1:σ1.next=σ.next+3:=by rw [h1];rfl
 have e1:σ1.get lb=some (.rw (ic (List.replicate 19 0))):=by rw [h1,gS'];rfl
 have s1:σ.Same σ1:=by rw [h1];repeat (with_reducible first | exact Mem.Same.refl _ | refine Mem.Same.bump ?_ _ | refine Mem.Same.put ?_ (by omega) _)
 clear h1
 obtain ⟨ob,hob⟩:∃ b,σ1.next=b:=⟨_,rfl⟩
 rw [hob]
 refine To.go ?_
 obtain ⟨σ2,h2⟩:∃ σ2,σ2=(σ1.bump 5).put ob (some (.rw (ic ordr))):=⟨_,rfl⟩
 have h2':=h2
 unfold ordr ic at h2
 rw [show List.map (λn=>AV.int IntKind.i64 n) [16,17,18,0,8,7,9,6,10,5,11,4,12,3,13,2,14,1,15]=[AV.int .i64 16,.int .i64 17,.int .i64 18,.int .i64 0,.int .i64 8,.int .i64 7,.int .i64 9,.int .i64 6,.int .i64 10,.int .i64 5,.int .i64 11,.int .i64 4,.int .i64 12,.int .i64 3,.int .i64 13,.int .i64 2,.int .i64 14,.int .i64 1,.int .i64 15] from rfl] at h2
 rw [<- h2]
 clear h2
 have n2:σ2.next=σ.next+8:=by rw [h2'];simp only [Mem.next_put,Mem.next_bump];omega
 have e2:σ2.get lb=some (.rw (ic (List.replicate 19 0))):=by rw [h2',Mem.get_put_ne _ (by omega),Mem.get_bump];exact e1
 have o2:σ2.get ob=some (.rw (ic ordr)):=by rw [h2',gS']
 have s2:σ.Same σ2:=by rw [h2'];repeat (with_reducible first | assumption | refine Mem.Same.bump ?_ _ | refine Mem.Same.put ?_ (by omega) _)
 clear h2' e1
 refine To.go ?_
 refine And.intro (by omega) ?_
 rw [Int.toNat_natCast]
 refine To.go ?_
 obtain ⟨D,hD⟩:∃ D,z7m (ordr.take told) (List.replicate 19 0) s p=D:=⟨_,rfl⟩
 rw [hD]
 have ho:∀ b∈o,b<σ.next:=h.lt
 refine loop1 (λ(i:Nat) (y:Int) σ'=>y=i/\i<=told/\∃ acc q,z7m ((ordr.take told).drop i) acc s q=D/\acc.length=19/\Smv σ' o x r s q most out v/\Mem.Only o σ σ'/\σ2.next<=σ'.next/\σ'.get lb=some (.rw (ic acc))/\σ'.get ob=some (.rw (ic ordr))) (λi=>told-i) 0 ⟨rfl,by omega,List.replicate 19 0,p,hD,by simp,h.keep (λb hb=>s2.get b (ho b hb)) s2.next,s2.only _,Nat.le_refl _,e2,o2⟩ ?_
 clear e2 o2
 rintro i _ σ3 ⟨rfl,hi,acc,q,hd,hacc,h3,o3,n3,e3,b3⟩
 unfold z3u
 rw [hlb]
 have gr3:Grow o o σ σ3:=⟨o3,λb hb=>.inl hb,h3.lt⟩
 refine ifD (λhlt=>?_) (λhge=>?_)
 · have hil:i<told:=by omega
   obtain ⟨j,hj,hj19⟩:=ziE (i:=i) (by omega)
   have hdr:(ordr.take told).drop i=(j:Int)::(ordr.take told).drop (i+1):=by
    have hl:i<(ordr.take told).length:=by rw [List.length_take];show i<min told 19;omega
    rw [List.drop_eq_getElem_cons hl]
    congr 1
    rw [List.getElem_take]
    rw [List.getElem?_eq_getElem (by show i<19;omega)] at hj
    injection hj
   rw [hdr] at hd
   unfold z7m at hd
   refine To.go ?_
   refine And.intro hil ?_
   refine To.go ?_
   refine ldrw b3 (v:=.int .i64 (j:Nat)) ?_ ?_
   · have hl:i<ordr.length:=by show i<19;omega
     rw [zdW hl]
     rw [List.getElem?_eq_getElem hl] at hj
     injection hj with hj
     rw [hj]
   refine To.go ?_
   refine To.go ?_
   refine ldrw h3.gx (v:=.ptr r 0) rfl ?_
   refine z0 (Smv.bits (n:=3) (h3.bump 14) (by omega)) ?_
   rintro w σ4 ⟨g4',hw4⟩
   have n34:=g4'.only.next
   simp only [Mem.next_bump] at n34
   have g4:=gr3.trans g4'.ob
   have lbo:lb ∉ o:=λhm=>by have:=ho lb hm;omega
   have obo:ob ∉ o:=λhm=>by have:=ho ob hm;omega
   have e4:σ4.get lb=some (.rw (ic acc)):=(g4'.ob.only.get lb (by omega) lbo).trans e3
   have b4:σ4.get ob=some (.rw (ic ordr)):=(g4'.ob.only.get ob (by omega) obo).trans b3
   cases e:zZ 3 s q with
   | error z=>
     rw [e] at hw4
     subst hw4
     have hz:=Fr.ne (.bits 3) h3.le e
     rw [za e] at hd
     repeat (first | refine To.go ?_ | ((with_reducible apply opt);(· (rfl))) | with_reducible refine ifT (by omega) ?_)
     subst hd
     exact ⟨g4.bump _,_,rfl⟩
   | ok y=>
     obtain ⟨a,q2⟩:=y
     rw [e] at hw4
     obtain ⟨rfl,h4⟩:=hw4
     rw [z9 e,Int.toNat_natCast] at hd
     repeat (first | refine To.go ?_ | with_reducible refine And.intro (by omega) ?_ | ((with_reducible apply opt);(· (rfl))) | with_reducible refine ifF (not_not_intro rfl) ?_)
     rw [show 0+j*1=j from by omega]
     refine st1 (l:=ic acc) e4 (by rw [z0j];omega) rfl ?_
     rw [zaB]
     refine z6 (by omega) ?_
     refine again ⟨i+1,⟨by omega,by omega,acc.set j (a:Int),q2,hd,by rw [List.length_set];exact hacc,h4.keep (λb hb=>?_) ?_,⟨?_,λb hb hn=>?_⟩,?_,by rw [Mem.get_bump,gS'],?_⟩,by omega⟩
     · rw [Mem.get_bump,Mem.get_put_ne _ (by have:=ho b hb;omega)];rfl
     · simp only [Mem.next_bump,Mem.next_put];omega
     · have:=o3.next;simp only [Mem.next_bump,Mem.next_put];omega
     · rw [Mem.get_bump,Mem.get_put_ne _ (by omega)];exact g4.only.get b hb hn
     · simp only [Mem.next_bump,Mem.next_put];omega
     · rw [Mem.get_bump,Mem.get_put_ne _ (by omega)];exact b4
 · obtain rfl:i=told:=by omega
   rw [List.drop_of_length_le (by rw [List.length_take];omega)] at hd
   unfold z7m z0i at hd
   subst hd
   refine To.go ?_
   refine z0 (z4P (σ:=σ3.bump 7) (L:=acc) (.mk (b:=lb) (by rw [hacc]) ⟨_,e3,rfl⟩ (by rw [z0j,hacc])) (by omega)) ?_
   rintro _ σ4 ⟨pt,rfl,p1,p2,s4⟩
   have n4:=s4.next
   simp only [Mem.next_bump] at n4 p2
   replace s4:=s4.ob
   have h4:=h3.keep (λb hb=>s4.get b (h3.lt b hb)) s4.next
   repeat (first | refine To.go ?_ | ((with_reducible apply opt);(· (rfl))))
   refine ⟨gr3.then s4,λhc=>⟨_,rfl⟩,λhc=>?_,h4⟩
   obtain ⟨hL,t,rfl,ht'⟩:=p2 hc
   refine ⟨hL,hacc,t,_,by rw [hc],ht'.b,?_⟩
   have:=o3.next
   omega
theorem ziP {lo hi t:Nat} {L l:List Int} {a:AV} (h:Smv σ o x r s p most out v) (hL:lens L) (hL19:L.length=19) (ht:zcK lo hi L σ t) (hhi:hi<=σ.next) (hr:r<lo\/hi<=r) (ha:RdO 1 σ a (ic l) l.length) (hao:∀ b∈z3 a,b<σ.next/\b ∉ o) (hl:l.length<=2^40) :
 z1 PG z39 [.ptr x 0,.ptr t 0,a] σ λw σ'=>Grow o o σ σ'/\match zpx L l s p with
 | .ok (y,q)=>w=.tup [.int .i64 y.1,.int .i64 (y.2:Nat),.int .i64 0]/\1<=y.2/\y.2<=138/\Smv σ' o x r s q most out v
 | .error e=>∃ c n,w=.tup [.int .i64 c,.int .i64 n,.int .i64 e]:=by
 refine z9a λlive=>?_
 unfold z5i
 refine To.go ?_
 refine ldrw h.gx (v:=.ptr r 0) rfl ?_
 refine z0 (Smv.next (h.bump 14) hL (ht.keep λ_ _ _=>rfl) (by simp only [Mem.next_bump];omega) hr) ?_
 rintro w σ1 ⟨g1,_,hw⟩
 have n1:=g1.only.next
 simp only [Mem.next_bump] at n1
 replace g1:=g1.ob
 unfold zpx
 cases e:z3o L s p with
 | error z=>
   rw [e] at hw
   obtain ⟨c,rfl⟩:=hw
   have hz:=Fr.ne (.next L) h.le e
   rw [za e]
   repeat (first | refine To.go ?_ | ((with_reducible apply opt);(· (rfl))) | with_reducible refine ifT (by omega) ?_)
   exact ⟨g1.bump _,_,_,rfl⟩
 | ok y=>
   obtain ⟨c,q⟩:=y
   rw [e] at hw
   obtain ⟨rfl,h1⟩:=hw
   rw [z9 e]
   obtain ⟨i,rfl,hi19⟩:=zgo e
   rw [hL19] at hi19
   repeat (first | refine To.go ?_ | ((with_reducible apply opt);(· (rfl))) | with_reducible refine ifF (not_not_intro rfl) ?_)
   refine ifD (λhlt=>?_) (λhge=>?_)
   · rw [if_pos hlt]
     exact ⟨g1.bump _,rfl,Nat.le_refl 1,show 1<=138 by decide,h1.bump _⟩
   rw [if_neg hge]
   have ha1:=ha.keep (σ':=σ1) λb hb=>g1.only.get b (hao b hb).1 (hao b hb).2
   rcases (by omega:i=16\/i=17\/i=18) with rfl | rfl | rfl
   · repeat (with_reducible refine ifT rfl ?_)
     refine ha1.len ?_
     by_cases h0:l.length=0
     · rw [if_pos ⟨rfl,h0⟩]
       refine ifD (λ_=>?_) (λh=>absurd (by omega) h)
       exact ⟨g1.bump _,_,_,rfl⟩
     rw [if_neg λh=>h0 h.2]
     refine ifD (λh=>absurd (by omega) h0) (λ_=>?_)
     repeat (first | refine To.go ?_ | with_reducible refine And.intro (by omega) ?_ | ((with_reducible apply opt);(· (rfl))))
     refine ldrw h1.gx (v:=.ptr r 0) rfl ?_
     refine z0 (Smv.bits (n:=2) (h1.bump 29) (by omega)) ?_
     rintro w σ2 ⟨g2,hw⟩
     have n2:=g2.only.next
     simp only [Mem.next_bump] at n2
     replace g2:=g2.ob
     have ha2:=ha1.keep (σ':=σ2) λb hb=>g2.only.get b (by have:=(hao b hb).1;omega) (hao b hb).2
     have h12:=g1.trans g2
     rw [if_pos (show (((16:Nat):Int))=16 by decide)]
     clear e
     have hl1:l.length-1<l.length:=by omega
     have hgd:l.getD (l.length-1) 0=l[l.length-1]:=zA hl1
     cases e:zZ 2 s q with
     | error z=>
       rw [e] at hw
       subst hw
       have hz:=Fr.ne (.bits 2) h1.le e
       have hz3:z=3:=by unfold zZ at e;split at e;injection e with e;exact e.symm;exact absurd e (by simp)
       rw [za e]
       repeat (first | refine To.go ?_ | with_reducible refine And.intro (by omega) ?_ | ((with_reducible apply opt);(· (rfl))) | with_reducible refine ifT rfl ?_)
       refine ha2.len ?_
       obtain ⟨ba,baz,ca,rfl,hget⟩:=ha2.at hl1
       refine z6 (by omega) ?_
       rw [show ((l.length:Int)-1)=((l.length-1:Nat):Int) from by omega]
       refine To.go ?_
       refine And.intro hl1 ?_
       refine To.go ?_
       refine hget _ ?_
       refine To.go ?_
       exact ⟨h12.bump _,_,_,rfl⟩
     | ok y=>
       obtain ⟨a,q2⟩:=y
       rw [e] at hw
       obtain ⟨rfl,h2⟩:=hw
       rw [z9 e]
       have hal:=z9Z e
       repeat (first | refine To.go ?_ | with_reducible refine And.intro (by omega) ?_ | ((with_reducible apply opt);(· (rfl))) | with_reducible refine ifT rfl ?_)
       refine ha2.len ?_
       obtain ⟨ba,baz,ca,rfl,hget⟩:=ha2.at hl1
       refine z6 (by omega) ?_
       rw [show ((l.length:Int)-1)=((l.length-1:Nat):Int) from by omega]
       refine To.go ?_
       refine And.intro hl1 ?_
       refine To.go ?_
       refine hget _ ?_
       refine To.go ?_
       rw [if_pos (show (((16:Nat):Int))=16 by decide),hgd,if_neg (by decide)]
       exact ⟨h12.bump _,rfl,by dsimp only;omega,by dsimp only;omega,h2.bump _⟩
   · repeat (first | refine To.go ?_ | with_reducible refine And.intro (by omega) ?_ | ((with_reducible apply opt);(· (rfl))) | with_reducible refine ifF (by omega) ?_)
     refine ldrw h1.gx (v:=.ptr r 0) rfl ?_
     refine z0 (Smv.bits (n:=3) (h1.bump 29) (by omega)) ?_
     rintro w σ2 ⟨g2,hw⟩
     replace g2:=g2.ob
     have h12:=g1.trans g2
     rw [if_neg (λh=>absurd h.1 (by decide)),if_neg (by decide),if_pos (show (((17:Nat):Int))=17 by decide)]
     clear e
     cases e:zZ 3 s q with
     | error z=>
       rw [e] at hw
       subst hw
       have hz:=Fr.ne (.bits 3) h1.le e
       have hz3:z=3:=by unfold zZ at e;split at e;injection e with e;exact e.symm;exact absurd e (by simp)
       rw [za e]
       repeat (first | refine To.go ?_ | with_reducible refine And.intro (by omega) ?_ | ((with_reducible apply opt);(· (rfl))) | with_reducible refine ifF (by omega) ?_)
       exact ⟨h12.bump _,_,_,rfl⟩
     | ok y=>
       obtain ⟨a,q2⟩:=y
       rw [e] at hw
       obtain ⟨rfl,h2⟩:=hw
       rw [z9 e]
       have hal:=z9Z e
       repeat (first | refine To.go ?_ | with_reducible refine And.intro (by omega) ?_ | ((with_reducible apply opt);(· (rfl))) | with_reducible refine ifF (by omega) ?_)
       rw [if_neg (by decide),if_neg (by decide)]
       exact ⟨h12.bump _,rfl,by dsimp only;omega,by dsimp only;omega,h2.bump _⟩
   · repeat (first | refine To.go ?_ | with_reducible refine And.intro (by omega) ?_ | ((with_reducible apply opt);(· (rfl))) | with_reducible refine ifF (by omega) ?_)
     refine ldrw h1.gx (v:=.ptr r 0) rfl ?_
     refine z0 (Smv.bits (n:=7) (h1.bump 29) (by omega)) ?_
     rintro w σ2 ⟨g2,hw⟩
     replace g2:=g2.ob
     have h12:=g1.trans g2
     rw [if_neg (λh=>absurd h.1 (by decide)),if_neg (by decide),if_neg (by decide)]
     clear e
     cases e:zZ 7 s q with
     | error z=>
       rw [e] at hw
       subst hw
       have hz:=Fr.ne (.bits 7) h1.le e
       have hz3:z=3:=by unfold zZ at e;split at e;injection e with e;exact e.symm;exact absurd e (by simp)
       rw [za e]
       repeat (first | refine To.go ?_ | with_reducible refine And.intro (by omega) ?_ | ((with_reducible apply opt);(· (rfl))) | with_reducible refine ifF (by omega) ?_)
       exact ⟨h12.bump _,_,_,rfl⟩
     | ok y=>
       obtain ⟨a,q2⟩:=y
       rw [e] at hw
       obtain ⟨rfl,h2⟩:=hw
       rw [z9 e]
       have hal:=z9Z e
       repeat (first | refine To.go ?_ | with_reducible refine And.intro (by omega) ?_ | ((with_reducible apply opt);(· (rfl))) | with_reducible refine ifF (by omega) ?_)
       rw [if_neg (by decide),if_pos (show (((18:Nat):Int))=18 by decide)]
       exact ⟨h12.bump _,rfl,by dsimp only;omega,by dsimp only;omega,h2.bump _⟩
end
end
end Go.Vit
end
section
/- Inflate's walk 6 (as in the third seat) -/
set_option maxRecDepth 20000
namespace Go.Vit
open Go.Proofs
section
section
variable {σ σ':Mem} {o:List Nat} {x r p:Nat} {s:ByteArray} {most:Int} {out:List UInt8} {v:AV}
def zqv (k:Nat):Except Int (List Int×Nat)->Except Int ((List Int×List Int)×Nat)
 | .ok (l,q)=>.ok ((l.take k,l.drop k),q)
 | .error e=>.error e
theorem zdT (h:Smv σ o x r s p most out v):z1 PG z1L [.ptr x 0] σ λw σ'=>Grow o o σ σ'/\match zo9 s p with
 | .ok (y,q)=>∃ a b,w=.tup [a,b,.int .i64 0]/\RdO 1 σ' a (ic y.1) y.1.length/\RdO 1 σ' b (ic y.2) y.2.length/\(∀ z∈z3 a++z3 b,σ.next<=z/\z<σ'.next)/\y.1.length<=2^20/\y.2.length<=2^20/\Smv σ' o x r s q most out v
 | .error e=>∃ a b,w=.tup [a,b,.int .i64 e]:=by
 refine z6O λlive=>?_
 unfold z3J
 obtain ⟨lb,hlb⟩:∃ b,σ.next+4=b:=⟨_,rfl⟩
 rw [hlb]
 refine To.go ?_
 obtain ⟨σ1,h1⟩:∃ σ1,σ1=(σ.bump 11).put lb (some (.rw [.int .i64 5,.int .i64 5,.int .i64 4])):=⟨_,rfl⟩
 rw [<- h1]
 have s1:σ.Same σ1:=by rw [h1];repeat (with_reducible first | exact Mem.Same.refl _ | refine Mem.Same.bump ?_ _ | refine Mem.Same.put ?_ (by omega) _)
 have n1:σ1.next=σ.next+11:=by rw [h1];rfl
 have e1:σ1.get lb=some (.rw (ic ([5,5,4].map λ(n:Nat)=>(n:Int)))):=by rw [h1,gS'];rfl
 clear h1
 have ho:=h.lt
 have hs1:=h.keep (λb hb=>s1.get b (ho b hb)) s1.next
 refine z0 (z8F (ws:=[5,5,4]) hs1 (.mk (b:=lb) rfl ⟨_,e1,rfl⟩ rfl) (λb hb=>?_) (by decide) (by decide)) ?_
 · simp [z3] at hb;subst hb
   exact ⟨λhm=>by have:=ho b hm;omega,by omega⟩
 rintro w σ2 ⟨g2,hw⟩
 have o12:=g2.only
 have n2:=o12.next
 have o2:Mem.Only o σ σ2:=⟨by omega,λb hb hn=>(o12.get b (by omega) hn).trans (s1.get b hb)⟩
 have gr2:Grow o o σ σ2:=⟨o2,λb hb=>.inl hb,g2.lt⟩
 unfold zo9
 cases e:zgG [5,5,4] [] s p with
 | error z=>
   rw [e] at hw
   obtain ⟨c,rfl⟩:=hw
   have hz:=Fr.ne (.sev _ _) h.le e
   rw [za e]
   repeat (first | refine To.go ?_ | ((with_reducible apply opt);(· (rfl))) | with_reducible refine ifT (by omega) ?_)
   exact ⟨gr2.bump _,_,_,rfl⟩
 | ok y=>
   obtain ⟨hd,q⟩:=y
   rw [e] at hw
   obtain ⟨c,rfl,hc,hcb,h2⟩:=hw
   rw [z9 e]
   obtain ⟨vs,hvs,hvl,hvb⟩:=ziB _ _ e
   match vs,hvl with
   | [a0,a1,a2],_=>
   have b0:a0<32:=hvb 0 (by decide) (by simp)
   have b1:a1<32:=hvb 1 (by decide) (by simp)
   have b2:a2<16:=hvb 2 (by decide) (by simp)
   obtain rfl:hd=[(a0:Int),(a1:Int),(a2:Int)]:=by rw [hvs];rfl
   clear hvs hvb hvl e
   have d0:(([(a0:Int),(a1:Int),(a2:Int)].getD 0 0).toNat)=a0:=by simp
   have d1:(([(a0:Int),(a1:Int),(a2:Int)].getD 1 0).toNat)=a1:=by simp
   have d2:(([(a0:Int),(a1:Int),(a2:Int)].getD 2 0).toNat)=a2:=by simp
   rw [d0,d1,d2]
   clear d0 d1 d2
   obtain ⟨bb,bz,bc,rfl,hg0⟩:=hc.at (i:=0) (by simp)
   obtain ⟨bb,bz,bc,hq,hg1⟩:=hc.at (i:=1) (by simp)
   injection hq with q1 q2 q3 q4
   subst q1 q2 q4
   obtain ⟨bb,bz,bc,hq,hg2⟩:=hc.at (i:=2) (by simp)
   injection hq with q1 q2 q3 q4
   subst q1 q2 q4
   simp only [List.getElem_cons_zero,List.getElem_cons_succ,List.length_cons,List.length_nil] at hg0 hg1 hg2
   repeat (first | refine To.go ?_ | ((with_reducible apply opt);(· (rfl))) | with_reducible refine ifF (not_not_intro rfl) ?_)
   have rd0:∀ {K:Int->Prop} (n:Nat),K a0->ldI (σ2.bump n) (.ptr bb bz) K:=λn hk=>by
    refine To.go ?_
    exact hg0 n (by refine To.go ?_;exact hk)
   have rd1:∀ {K:Int->Prop} (n:Nat),K a1->ldI (σ2.bump n) (.ptr bb (bz+1)) K:=λn hk=>by
    refine To.go ?_
    exact hg1 n (by refine To.go ?_;exact hk)
   have rd2:∀ {K:Int->Prop} (n:Nat),K a2->ldI (σ2.bump n) (.ptr bb (bz+2)) K:=λn hk=>by
    refine To.go ?_
    exact hg2 n (by refine To.go ?_;exact hk)
   clear hg0 hg1 hg2 q3 hc
   refine And.intro (by simp) ?_
   refine rd0 _ ?_
   refine z6 (by omega) ?_
   refine To.go ?_
   refine And.intro (by simp) ?_
   refine rd0 _ ?_
   refine z6 (by omega) ?_
   refine To.go ?_
   refine And.intro (by simp) ?_
   refine rd1 _ ?_
   refine z6 (by omega) ?_
   refine z6 (by omega) ?_
   refine To.go ?_
   refine And.intro (by simp) ?_
   refine rd2 _ ?_
   refine z6 (by omega) ?_
   clear rd0 rd1 rd2
   obtain ⟨all,hall⟩:∃ all,a0+257+a1+1=all:=⟨_,rfl⟩
   rw [show ((a0:Int)+257+a1+1)=(all:Nat) from by omega,show ((a2:Int)+4)=((a2+4:Nat):Int) from by omega]
   refine z0 (zgs (told:=a2+4) (h2.bump 28) (by omega)) ?_
   rintro w σ3 ⟨g3',hw⟩
   have n3:=g3'.only.next
   simp only [Mem.next_bump] at n3
   have gr3:=gr2.trans g3'.ob
   clear g3' g2 o12 gr2 e1 s1 hs1
   unfold zl8
   cases e:z7m (ordr.take (a2+4)) (List.replicate 19 0) s q with
   | error z=>
     rw [e] at hw
     obtain ⟨c,rfl⟩:=hw
     have hz:=Fr.ne (.small _ _) h2.le e
     rw [za e]
     repeat (first | refine To.go ?_ | ((with_reducible apply opt);(· (rfl))) | with_reducible refine ifT (by omega) ?_)
     exact ⟨gr3.bump _,_,_,rfl⟩
   | ok y=>
     obtain ⟨sm,q2⟩:=y
     rw [e] at hw
     obtain ⟨hbad,hgood,h3⟩:=hw
     rw [z9 e]
     clear e
     by_cases hck:chk sm≠0
     · obtain ⟨c,rfl⟩:=hbad hck
       rw [za (e:=chk sm) (by unfold z2r;rw [if_pos hck];rfl)]
       repeat (first | refine To.go ?_ | ((with_reducible apply opt);(· (rfl))) | with_reducible refine ifT (by omega) ?_)
       exact ⟨gr3.bump _,_,_,rfl⟩
     replace hck:chk sm=0:=by simpa using hck
     obtain ⟨hL,h19,t,lo,rfl,ht,hlo⟩:=hgood hck
     rw [z9 (a:=()) (q:=q2) (by unfold z2r;rw [if_neg (by simpa using hck)];rfl)]
     repeat (first | refine To.go ?_ | ((with_reducible apply opt);(· (rfl))) | with_reducible refine ifF (not_not_intro rfl) ?_)
     obtain ⟨k,hk⟩:∃ k,a0+257=k:=⟨_,rfl⟩
     rw [show a0+257+a1+2=all+1 from by omega,hall,hk,show ((a0:Int)+257)=(k:Nat) from by omega]
     have hka:k<=all:=by omega
     have hall2:all<=400:=by omega
     have hk1:1<=k:=by omega
     clear hbad hgood hcb b0 b1 b2 hall hk q3 o2
     simp only [Mem.next_bump] at hlo
     obtain ⟨D,hD⟩:∃ D,zag sm all (all+1) [] s q2=D:=⟨_,rfl⟩
     obtain ⟨R,hR⟩:∃ R:Except Int ((List Int×List Int)×Nat),zqv k D=R:=⟨_,rfl⟩
     have hR':zi (zag sm all (all+1) []) (λl=>z0i (List.take k l,List.drop k l)) s q2=R:=by
      unfold zi
      rw [hD,<- hR]
      cases D with
      | error z=>rfl
      | ok y=>rfl
     rw [hR']
     clear hR'
     refine loop1 (λ(f:Nat) (u:AV) σ'=>∃ l q,zag sm all f l s q=D/\all<f+l.length/\l.length<=all/\Own 1 σ3 σ' u (ic l) l.length/\Smv σ' o x r s q most out v/\Mem.Only o σ3 σ') (λf=>f) (all+1) ⟨[],q2,hD,by simp,by simp,Own.nil 1 _ _,h3.bump _,⟨by simp only [Mem.next_bump];omega,λ_ _ _=>rfl⟩⟩ ?_
     clear hD
     rintro f u σ4 ⟨l,q3,hd,hf,hl,own4,h4,o4⟩
     unfold z2S
     have n4:=o4.next
     have gr4:Grow o o σ σ4:=gr3.trans ⟨o4,λb hb=>.inl hb,h4.lt⟩
     have own4l:=own4.1.rdO
     refine own4l.len ?_
     refine ifD (λhlt=>?_) (λhge=>?_)
     · have hlt:l.length<all:=by omega
       obtain ⟨f,rfl⟩:∃ f',f=f'+1:=⟨f-1,by omega⟩
       unfold zag at hd
       rw [if_pos hlt] at hd
       refine z0 (ziP (h4.bump 15) hL h19 (ht.keep (σ':=σ4.bump 15) λb hb hb'=>?_) (by simp only [Mem.next_bump];omega) ?_ (own4l.keep λ_ _=>rfl) (λb hb=>⟨by have:=own4.2 b hb;simp only [Mem.next_bump];omega,λhm=>by have:=own4.2 b hb;have:=h3.lt b hm;omega⟩) (by omega)) ?_
       · rw [Mem.get_bump];exact o4.get b hb' λhm=>by have:=ho b hm;omega
       · have:=ho r (by rw [h.eqo];simp);omega
       rintro w σ5 ⟨g5',hw⟩
       have n5:=g5'.only.next
       simp only [Mem.next_bump] at n5
       replace g5':=g5'.ob
       have gr5:=gr4.trans g5'
       have own5:=own4.only g5'.only λb hb hm=>by have:=own4.2 b hb;have:=h3.lt b hm;omega
       have o5:Mem.Only o σ3 σ5:=o4.trans g5'.only
       cases e:zpx sm l s q3 with
       | error z=>
         rw [e] at hw
         obtain ⟨c,n,rfl⟩:=hw
         have hz:=Fr.ne (.run _ _) h4.le e
         rw [za e] at hd
         subst hd
         subst hR
         repeat (first | refine To.go ?_ | ((with_reducible apply opt);(· (rfl))) | with_reducible refine ifF (by omega) ?_)
         refine zu ?_
         unfold z2A
         repeat (with_reducible refine ifT (by omega) ?_)
         exact ⟨(gr5.bump _).bump _,_,_,rfl⟩
       | ok y=>
         obtain ⟨⟨c,n⟩,q4⟩:=y
         rw [e] at hw
         obtain ⟨rfl,hn1,hn2,h5⟩:=hw
         dsimp only at hn1 hn2
         rw [z9 e] at hd
         dsimp only at hd
         have own5l:=own5.1.rdO
         repeat (first | refine To.go ?_ | ((with_reducible apply opt);(· (rfl))) | with_reducible refine ifT rfl ?_)
         refine own5l.len ?_
         refine z6 (by omega) ?_
         refine zu ?_
         refine ifD (λhgt=>?_) (λhle=>?_)
         · rw [if_pos (by omega)] at hd
           unfold z5a at hd
           subst hd
           subst hR
           unfold z1d
           repeat (with_reducible refine ifT (by omega) ?_)
           exact ⟨(gr5.bump _).bump _,_,_,rfl⟩
         · rw [if_neg (by omega)] at hd
           unfold z1d
           repeat (with_reducible refine ifF (not_not_intro rfl) ?_)
           refine loop2 (λ(i:Nat) (u:AV) (y:Int) σ'=>y=i/\i<=n/\Own 1 σ3 σ' u (ic (l++List.replicate i c)) (l.length+i)/\Smv σ' o x r s q4 most out v/\Mem.Only o σ3 σ') (λi=>n-i) 0 ⟨rfl,by omega,?_,(h5.bump _).bump _,(o5.bump _).bump _⟩ ?_
           · rw [List.replicate_zero,List.append_nil,Nat.add_zero]
             exact ⟨own5.1.keep λ_ _=>rfl,λb hb=>by have:=own5.2 b hb;simp only [Mem.next_bump];omega⟩
           rintro i u _ σ6 ⟨rfl,hi,own6,h6,o6⟩
           unfold z2z
           refine ifD (λhlt=>?_) (λhge=>?_)
           · repeat (refine To.go ?_)
             refine own6.pushO (os:=o) (m:=1) (c:=ic [c]) o6 rfl (by omega) (by omega) (by omega) rfl rfl (z3s _) (by omega) ?_ (by simp only [Mem.next_put,Mem.next_bump];omega)
             intro u' σ7 own7 o7 hn7 o67 hb7
             rw [<- z3k,List.append_assoc,<- List.replicate_succ'] at own7
             refine z6 (by omega) ?_
             have n7:=o7.next
             refine again ⟨i+1,⟨by omega,by omega,⟨own7.1.keep λ_ _=>rfl,λb hb=>by have:=own7.2 b hb;simp only [Mem.next_bump];omega⟩,h6.keep (λb hb=>?_) ?_,o7.bump _⟩,by omega⟩
             · rw [Mem.get_bump,o67.get b (h6.lt b hb) λhm=>by have:=own6.2 b hm;have:=h3.lt b hb;omega]
             · have:=o67.next
               simp only [Mem.next_bump];omega
           · obtain rfl:i=n:=by omega
             refine again ⟨f,⟨l++List.replicate i c,q4,hd,by simp;omega,by simp;omega,⟨?_,λb hb=>by have:=own6.2 b hb;simp only [Mem.next_bump];omega⟩,h6.bump _,o6.bump _⟩,by omega⟩
             rw [List.length_append,List.length_replicate]
             exact own6.1.keep λ_ _=>rfl
     · obtain ⟨f,rfl⟩:∃ f',f=f'+1:=⟨f-1,by omega⟩
       unfold zag at hd
       rw [if_neg (by omega)] at hd
       unfold z0i at hd
       subst hd
       subst hR
       have hlk:l.length=all:=by omega
       rcases own4.1 with ⟨_,h0,_⟩ | ⟨b,rfl,h1,h2'⟩
       · omega
       refine And.intro ⟨rfl,Int.le_refl _,show (0:Int)<=(k:Nat) by omega,show ((k:Nat):Int)<=((l.length:Nat):Int) by omega⟩ ?_
       refine And.intro ⟨rfl,show (0:Int)<=(k:Nat) by omega,show ((k:Nat):Int)<=((l.length:Nat):Int) by omega,Int.le_refl _⟩ ?_
       refine ⟨gr4.bump _,_,_,rfl,?_,?_,?_,?_,?_,h4.bump _⟩
       · dsimp only [orD,zqv]
         rw [List.length_take,Nat.min_eq_left (by omega),Int.toNat_natCast]
         show RdO 1 (σ4.bump 13) (.slice b 0 k _) _ _
         exact RdO.take (own4l.keep λ_ _=>rfl) (by omega)
       · dsimp only [orD,zqv]
         rw [List.length_drop,Int.toNat_natCast,Int.toNat_natCast,Nat.mul_one,Nat.zero_add]
         exact RdO.drop (own4l.keep λ_ _=>rfl) (by omega)
       · intro z hz
         have hz:z=b:=by simpa [z3] using hz
         subst hz
         have:=own4.2 z (by simp [z3])
         have:=gr3.only.next
         simp only [Mem.next_bump]
         omega
       · show (l.take k).length<=_
         rw [List.length_take];omega
       · show (l.drop k).length<=_
         rw [List.length_drop];omega
end
end
end Go.Vit
end
section
/- Inflate's walk 7 (as in the third seat) -/
set_option maxRecDepth 20000
namespace Go.Vit
open Go.Proofs
section
section
variable {σ σ':Mem} {o:List Nat} {x r p:Nat} {s:ByteArray} {most:Int} {out:List UInt8} {v:AV}
theorem zcK.only {lo hi t:Nat} {D:List Int} {o:List Nat} (ht:zcK lo hi D σ t) (h:Mem.Only o σ σ') (hhi:hi<=σ.next) (ho:∀ b∈o,b<lo\/hi<=b):zcK lo hi D σ' t:=
 ht.keep λb h1 h2=>h.get b (by omega) λhm=>by have:=ho b hm;omega
theorem zog {n q:Nat} {z:Int} (e:zZ n s q=.error z):z=3:=by
 unfold zZ at e
 split at e
 · injection e with e;exact e.symm
 · exact absurd e (by simp)
theorem zlv {out:List UInt8} {i:Nat} (h:i<out.length):(bl out)[i]? = some (.int .u8 ((out[i]?.getD 0).toNat:Nat)):=by
 rw [zor h,List.getElem?_eq_getElem h];rfl
theorem zfz {lo hi t c:Nat} {D:List Int} (h:Smv σ o x r s p most out v) (hc:257<=c) (hc2:c<2^32) (hD:lens D) (hDl:D.length<=2^20) (ht:zcK lo hi D σ t) (hhi:hi<=σ.next) (hto:∀ b∈o,b<lo\/hi<=b) :
 z1 PG z2i [.ptr x 0,.int .i64 (c:Nat),.ptr t 0] σ λw σ'=>∃ o',Grow o o' σ σ'/\match zaL most D c out s p with
 | .ok (a,q)=>w=.int .i64 0/\Sm σ' o' x r s q most a
 | .error e=>w=.int .i64 e:=by
 refine z7K λlive=>?_
 unfold z4l
 refine z0 (zeT (h.bump 9) hc hc2) ?_
 rintro w σ1 ⟨g1,hw⟩
 replace g1:=g1.ob
 unfold zaL
 cases e:zmW c s p with
 | error z=>
   rw [e] at hw
   obtain ⟨k,rfl⟩:=hw
   have hz:=Fr.ne (.len c) h.le e
   rw [za e]
   repeat (first | refine To.go ?_ | ((with_reducible apply opt);(· (rfl))) | with_reducible refine ifT (by omega) ?_)
   exact ⟨o,g1.bump _,rfl⟩
 | ok y=>
   obtain ⟨n,q⟩:=y
   rw [e] at hw
   obtain ⟨rfl,hn,h1⟩:=hw
   rw [z9 e]
   clear e
   have n1:=g1.only.next
   have ht1:=ht.only g1.only hhi hto
   have hr:r<lo\/hi<=r:=hto r (by rw [h.eqo];simp)
   repeat (first | refine To.go ?_ | ((with_reducible apply opt);(· (rfl))) | with_reducible refine ifF (not_not_intro rfl) ?_)
   refine ldrw h1.gx (v:=.ptr r 0) rfl ?_
   refine z0 (Smv.next (h1.bump 13) hD (ht1.keep λ_ _ _=>rfl) (by simp only [Mem.next_bump];omega) hr) ?_
   rintro w σ2 ⟨g2,_,hw⟩
   replace g2:=g1.trans g2.ob
   have n2:=g2.only.next
   cases e:z3o D s q with
   | error z=>
     rw [e] at hw
     obtain ⟨k,rfl⟩:=hw
     have hz:=Fr.ne (.next D) h1.le e
     rw [za e]
     repeat (first | refine To.go ?_ | ((with_reducible apply opt);(· (rfl))) | with_reducible refine ifT (by omega) ?_)
     exact ⟨o,g2.bump _,rfl⟩
   | ok y=>
     obtain ⟨f,q2⟩:=y
     rw [e] at hw
     obtain ⟨rfl,h2⟩:=hw
     rw [z9 e]
     obtain ⟨f,rfl,hf⟩:=zgo e
     clear e
     rw [Int.toNat_natCast]
     repeat (first | refine To.go ?_ | ((with_reducible apply opt);(· (rfl))) | with_reducible refine ifF (not_not_intro rfl) ?_)
     refine z0 (zcP (c:=f) (h2.bump 10) (by omega)) ?_
     rintro w σ3 ⟨g3,hw⟩
     replace g3:=g2.trans g3.ob
     cases e:zcQ f s q2 with
     | error z=>
       rw [e] at hw
       obtain ⟨k,rfl⟩:=hw
       have hz:=Fr.ne (.dist f) h2.le e
       rw [za e]
       repeat (first | refine To.go ?_ | ((with_reducible apply opt);(· (rfl))) | with_reducible refine ifT (by omega) ?_)
       exact ⟨o,g3.bump _,rfl⟩
     | ok y=>
       obtain ⟨d,q3⟩:=y
       rw [e] at hw
       obtain ⟨rfl,hd1,hd2,h3⟩:=hw
       rw [z9 e]
       clear e
       repeat (first | refine To.go ?_ | ((with_reducible apply opt);(· (rfl))) | with_reducible refine ifF (not_not_intro rfl) ?_)
       refine ldrw h3.gx (v:=v) rfl ?_
       refine h3.own.rdO.len ?_
       refine ifD (λhlt=>?_) (λhge=>?_)
       · rw [if_pos (by omega)]
         exact ⟨o,g3.bump _,rfl⟩
       rw [if_neg (by omega)]
       refine z0 (z8u (n:=n) (h3.bump 15) (by omega)) ?_
       rintro w σ4 ⟨rfl,s4⟩
       replace s4:=s4.ob
       have h4:=h3.keep (λb hb=>s4.get b (h3.lt b hb)) s4.next
       have g4:=g3.then s4
       unfold z4K
       by_cases hroom:most-out.length<n
       · rw [if_pos hroom,if_pos hroom]
         repeat (first | refine To.go ?_ | with_reducible refine ifT (by omega) ?_)
         exact ⟨o,g4.bump _,rfl⟩
       · rw [if_neg hroom,if_neg hroom]
         repeat (first | refine To.go ?_ | with_reducible refine ifF (not_not_intro rfl) ?_)
         have hms:=h.ms
         have hdo:d<=out.length:=by omega
         have hroom:(out.length:Int)+n<=most:=by omega
         clear h1 h2 h3 g1 g2 g3 s4 ht1 n1 n2
         refine loop1 (λ(i:Nat) (y:Int) σ'=>y=i/\i<=n/\∃ o' v',Grow o o' σ σ'/\Smv σ' o' x r s q3 most (z4X out d i) v') (λi=>n-i) 0 ⟨rfl,by omega,o,v,g4.bump _,h4.bump _⟩ ?_
         clear g4 h4
         rintro i _ σ4 ⟨rfl,hi,o4,v4,g4,h4⟩
         unfold z3y
         refine ifD (λhin=>?_) (λhin=>?_)
         · have hclen:=zbp out d i
           have hcs:z4X out d (i+1)=z4X out d i++[(z4X out d i)[(z4X out d i).length-d]?.getD 0]:=rfl
           obtain ⟨y,hy⟩:∃ y,z4X out d i=y:=⟨_,rfl⟩
           rw [hy] at h4 hclen hcs
           rw [hclen] at hcs
           have hlast:=zlv (out:=y) (i:=out.length+i-d) (by omega)
           obtain ⟨z,hz⟩:∃ z,y[out.length+i-d]?.getD 0=z:=⟨_,rfl⟩
           rw [hz] at hcs hlast
           refine To.go ?_
           refine ldrw h4.gx (v:=v4) rfl ?_
           refine To.go ?_
           refine ldrw h4.gx (v:=v4) rfl ?_
           refine To.go ?_
           refine ldrw h4.gx (v:=v4) rfl ?_
           refine h4.own.rdO.len ?_
           refine z6 (by omega) ?_
           rw [hclen,show (((out.length+i:Nat):Int)-(d:Int))=((out.length+i-d:Nat):Int) from by omega]
           obtain ⟨u,rfl,hu,_⟩:=h4.own.sl (by omega)
           repeat (first | refine To.go ?_ | with_reducible refine And.intro (by omega) ?_ | ((with_reducible apply ldrw);(· ((simp (disch:=omega) only [go_sem, *];try rfl)));(· (with_reducible assumption))))
           refine h4.push (bytes:=[z]) (m:=1) (by repeat (with_reducible first | exact Mem.Same.refl _ | refine Mem.Same.bump ?_ _ | refine Mem.Same.put ?_ (by omega) _)) (λK hK=>?_) rfl ⟨by omega,by simp only [Mem.next_put,Mem.next_bump];omega⟩ (.inr (by simp only [List.length_singleton];omega)) ?_
           · exact z6R (Mem.get_put_self _ _ _) rfl rfl K hK
           intro o5 v5 σ5 h5 g5 n5
           refine z6 (by omega) ?_
           refine again ⟨i+1,⟨by omega,by omega,o5,v5,(g4.trans g5).bump _,?_⟩,by omega⟩
           rw [hcs];exact h5.bump _
         · obtain rfl:i=n:=by omega
           exact ⟨o4,g4.bump _,rfl,v4,h4.bump _⟩
end
end
end Go.Vit
end
section
/- Inflate's walk 8 (as in the third seat) -/
set_option maxRecDepth 20000
namespace Go.Vit
open Go.Proofs
section
theorem zoG {L:List Int} {s:ByteArray}:∀ (k n c p:Nat),(dec L s k n c p).2.1=0->p<(dec L s k n c p).2.2
 | 0,_,_,_,h=>by unfold dec at h;exact absurd h (by simp)
 | k+1,n,c,p,h=>by
   unfold dec at h ⊢
   by_cases h1:8*s.size<=p
   · rw [if_pos h1] at h;exact absurd h (by simp)
   · rw [if_neg h1] at h ⊢
     cases e:fnd L n (2*c+z2T s p) with
     | some i=>exact Nat.lt_succ_self p
     | none=>
       rw [e] at h
       have:=zoG k _ _ _ h
       dsimp only
       omega
theorem zfE {L:List Int} {s:ByteArray} {p q:Nat} {c:Int} (h:z3o L s p=.ok (c,q)):p<q:=by
 unfold z3o at h
 split at h
 · rename_i h0
   injection h with h
   rw [<- (Prod.mk.inj h).2]
   exact zoG _ _ _ _ h0
 · exact absurd h (by simp)
section
variable {σ σ':Mem} {o:List Nat} {x r p:Nat} {s:ByteArray} {most:Int} {out:List UInt8} {v:AV}
theorem zgO {σg:Mem} {lo hi t lo2 hi2 t2 F:Nat} {L D:List Int} {one:Int} {Q:AV->Mem->Prop} {k8:Bool->Mem->Prop} (hx:x=σg.next+7) (h:Smv σ o x r s p most out v)
 (hL:lens L) (hLl:L.length<=2^20) (ht:zcK lo hi L σ t) (hhi:hi<=σ.next) (hto:∀ b∈o,b<lo\/hi<=b)
 (hD:lens D) (hDl:D.length<=2^20) (ht2:zcK lo2 hi2 D σ t2) (hhi2:hi2<=σ.next) (hto2:∀ b∈o,b<lo2\/hi2<=b)
 (hF:8*s.size<F+p)
 (herr:∀ e,z9u most L D F out s p=.error e->∀ o' σ',Grow o o' σ σ'->Q (.tup [.str ⟨#[]⟩,.int .i64 0,.int .i64 e]) σ')
 (hok:∀ a q,z9u most L D F out s p=.ok (a,q)->∀ o' v' σ',Grow o o' σ σ'->Smv σ' o' x r s q most a v'->k8 (decide (one=1)) σ') :
 zj [] (z3h Q σg k8 one (.ptr t 0) (.ptr t2 0)) σ:=by
 obtain ⟨R,hR⟩:∃ R,z9u most L D F out s p=R:=⟨_,rfl⟩
 rw [hR] at herr hok
 refine loop0 (λ(f:Nat) σ'=>∃ o' out' p' v',z9u most L D f out' s p'=R/\8*s.size<f+p'/\Grow o o' σ σ'/\Smv σ' o' x r s p' most out' v') (λf=>f) F ⟨o,out,p,v,hR,hF,h.g0,h⟩ ?_
 clear hR hF
 rintro f σ1 ⟨o1,out1,p1,v1,hR,hF,g1,h1⟩
 have ht1:=ht.only g1.only hhi hto
 have ht21:=ht2.only g1.only hhi2 hto2
 have n1:=g1.only.next
 have hto1:∀ b∈o1,b<lo\/hi<=b:=λb hb=>by
  rcases g1.new b hb with hm | hm
  · exact hto b hm
  · omega
 have hto21:∀ b∈o1,b<lo2\/hi2<=b:=λb hb=>by
  rcases g1.new b hb with hm | hm
  · exact hto2 b hm
  · omega
 have hr:r<lo\/hi<=r:=hto r (by rw [h.eqo];simp)
 unfold z3h
 rw [<- hx]
 have hle:=h1.le
 obtain ⟨f,rfl⟩:∃ f',f=f'+1:=⟨f-1,by omega⟩
 unfold z9u at hR
 refine To.go ?_
 refine ldrw h1.gx (v:=.ptr r 0) rfl ?_
 refine z0 (Smv.next (h1.bump 11) hL (ht1.keep λ_ _ _=>rfl) (by simp only [Mem.next_bump];omega) hr) ?_
 rintro w σ2 ⟨g2,_,hw⟩
 replace g2:=g1.trans g2.ob
 have n2:=g2.only.next
 cases e:z3o L s p1 with
 | error z=>
   rw [e] at hw
   obtain ⟨k,rfl⟩:=hw
   have hz:=Fr.ne (.next L) h1.le e
   rw [za e] at hR
   repeat (first | refine To.go ?_ | ((with_reducible apply opt);(· (rfl))))
   refine zu ?_
   repeat (with_reducible refine ifT (by omega) ?_)
   unfold z0a
   repeat (with_reducible refine ifT (by omega) ?_)
   exact herr z hR.symm _ _ ((g2.bump _).bump _)
 | ok y=>
   obtain ⟨c,q⟩:=y
   rw [e] at hw
   obtain ⟨rfl,h2⟩:=hw
   rw [z9 e] at hR
   obtain ⟨c,rfl,hc⟩:=zgo e
   have hpq:=zfE e
   rw [Int.toNat_natCast] at hR
   have ht2':=ht2.only g2.only hhi2 hto2
   repeat (first | refine To.go ?_ | ((with_reducible apply opt);(· (rfl))))
   refine zu ?_
   repeat (with_reducible refine ifF (not_not_intro rfl) ?_)
   refine zu ?_
   refine ifD (λhlt=>?_) (λhge=>?_)
   · rw [if_pos hlt] at hR
     refine z0 (z8u (n:=1) (h2.bump 9) (by omega)) ?_
     rintro w σ3 ⟨rfl,s3⟩
     replace s3:=s3.ob
     have h3:=h2.keep (λb hb=>s3.get b (h2.lt b hb)) s3.next
     have g3:=g2.then s3
     unfold z4K at hR
     by_cases hroom:most-out1.length<(1:Nat)
     · rw [if_pos hroom] at hR ⊢
       repeat (refine To.go ?_)
       refine zu ?_
       repeat (with_reducible refine ifF (by omega) ?_)
       unfold z38 z0P
       skip
       unfold z0a
       repeat (with_reducible refine ifT (by omega) ?_)
       exact herr 5 hR.symm _ _ ((g3.bump _).bump _)
     · rw [if_neg hroom] at hR ⊢
       rw [z9 (a:=()) (q:=q) rfl] at hR
       repeat (refine To.go ?_)
       refine zu ?_
       repeat (first | refine To.go ?_ | with_reducible refine ifT rfl ?_)
       refine ldrw h3.gx (v:=v1) rfl ?_
       refine To.go ?_
       rw [Int.emod_eq_of_lt (by omega) hlt]
       refine To.go ?_
       refine h3.push (bytes:=[UInt8.ofNat c]) (m:=1) (by repeat (with_reducible first | exact Mem.Same.refl _ | refine Mem.Same.bump ?_ _ | refine Mem.Same.put ?_ (by omega) _)) (λK hK=>?_) rfl ⟨by omega,by simp only [Mem.next_put,Mem.next_bump];omega⟩ (.inr (by simp only [List.length_singleton];omega)) ?_
       · refine z6R (Mem.get_put_self _ _ _) rfl rfl K ?_
         rw [zdy (by omega),Int.toNat_natCast]
         exact hK
       intro o5 v5 σ5 h5 g5 n5
       unfold z38 z0P z0a
       repeat (with_reducible refine ifF (not_not_intro rfl) ?_)
       exact again ⟨f,⟨o5,_,q,v5,hR,by omega,(g3.trans g5).bump _,h5.bump _⟩,by omega⟩
   · rw [if_neg hge] at hR
     refine ifD (λheq=>?_) (λhne=>?_)
     · rw [if_pos heq] at hR
       exact hok _ _ hR.symm _ _ _ (g2.bump _) (h2.bump _)
     · rw [if_neg hne] at hR
       refine z0 (zfz (c:=c) (h2.bump 14) (by omega) (by omega) hD hDl (ht2'.keep λ_ _ _=>rfl) (by simp only [Mem.next_bump];omega) λb hb=>?_) ?_
       · exact hto21 b hb
       rintro w σ3 ⟨o3,g3,hw⟩
       replace g3:=g2.trans g3.ob
       clear e
       cases e:zaL most D c out1 s q with
       | error z=>
         rw [e] at hw
         subst hw
         have hz:=Fr.ne (.mtch _ _ _ _) h2.le e
         rw [za e] at hR
         unfold z0P
         repeat (refine To.go ?_)
         unfold z0a
         repeat (with_reducible refine ifT (by omega) ?_)
         exact herr z hR.symm _ _ (g3.bump _)
       | ok y=>
         obtain ⟨a,q2⟩:=y
         rw [e] at hw
         obtain ⟨rfl,v3,h3⟩:=hw
         have hq:=Fr.le (.mtch _ _ _ _) h2.le e
         rw [z9 e] at hR
         unfold z0P
         repeat (refine To.go ?_)
         unfold z0a
         repeat (with_reducible refine ifF (not_not_intro rfl) ?_)
         exact again ⟨f,⟨o3,a,q2,v3,hR,by omega,g3.bump _,h3.bump _⟩,by omega⟩
end
end
end Go.Vit
end
section
/- Inflate's walk 9 (as in the third seat) -/
set_option maxRecDepth 20000
namespace Go.Vit
open Go.Proofs
section
section
variable {σ σ':Mem} {o:List Nat} {x r p:Nat} {s:ByteArray} {most:Int} {out:List UInt8} {v:AV}
theorem zbg {σg:Mem} {F:Nat} {L D:List Int} {a b:AV} {one:Int} {Q:AV->Mem->Prop} {k8:Bool->Mem->Prop} (hx:x=σg.next+7) (h:Smv σ o x r s p most out v)
 (hL:RdO 1 σ a (ic L) L.length) (hD:RdO 1 σ b (ic D) D.length) (hbl:∀ z∈z3 b,z<σ.next) (hLl:L.length<=2^20) (hDl:D.length<=2^20) (hF:8*s.size<F+p)
 (herr:∀ e,z8z most F L D out s p=.error e->∀ o' σ',Grow o o' σ σ'->Q (.tup [.str ⟨#[]⟩,.int .i64 0,.int .i64 e]) σ')
 (hok:∀ a q,z8z most F L D out s p=.ok (a,q)->∀ o' v' σ',Grow o o' σ σ'->Smv σ' o' x r s q most a v'->k8 (decide (one=1)) σ') :
 z3g Q σg k8 one a b σ:=by
 unfold z3g
 unfold z8z at herr hok
 refine z0 (z4P (σ:=σ.bump 7) (hL.keep λ_ _=>rfl) (by omega)) ?_
 rintro _ σ1 ⟨p1,rfl,_,hok1,s1⟩
 have n1:=s1.next
 simp only [Mem.next_bump] at n1 hok1
 replace s1:=s1.ob
 have h1:=h.keep (λb hb=>s1.get b (h.lt b hb)) s1.next
 have g1:=h.g0.then s1
 by_cases hc1:chk L≠0
 · rw [za (e:=chk L) (by unfold z2r;rw [if_pos hc1];rfl)] at herr
   repeat (first | refine To.go ?_ | ((with_reducible apply opt);(· (rfl))) | with_reducible refine ifT (by omega) ?_)
   exact herr _ rfl _ _ (g1.bump _)
 replace hc1:chk L=0:=by simpa using hc1
 rw [z9 (a:=()) (q:=p) (by unfold z2r;rw [if_neg (by simpa using hc1)];rfl)] at herr hok
 obtain ⟨lL,t,rfl,hT⟩:=hok1 hc1
 clear hok1
 rw [hc1]
 repeat (first | refine To.go ?_ | ((with_reducible apply opt);(· (rfl))) | with_reducible refine ifF (not_not_intro rfl) ?_)
 refine z0 (z4P (σ:=σ1.bump 9) (hD.keep λz hz=>s1.get z (hbl z hz)) (by omega)) ?_
 rintro _ σ2 ⟨p2,rfl,_,hok2,s2⟩
 have n2:=s2.next
 simp only [Mem.next_bump] at n2 hok2
 replace s2:=s2.ob
 have h2:=h1.keep (λb hb=>s2.get b (h1.lt b hb)) s2.next
 have g2:=g1.then s2
 by_cases hc2:chk D≠0
 · rw [za (e:=chk D) (by unfold z2r;rw [if_pos hc2];rfl)] at herr
   repeat (first | refine To.go ?_ | ((with_reducible apply opt);(· (rfl))) | with_reducible refine ifT (by omega) ?_)
   exact herr _ rfl _ _ (g2.bump _)
 replace hc2:chk D=0:=by simpa using hc2
 rw [z9 (a:=()) (q:=p) (by unfold z2r;rw [if_neg (by simpa using hc2)];rfl)] at herr hok
 obtain ⟨lD,t2,rfl,hT2⟩:=hok2 hc2
 clear hok2
 rw [hc2]
 repeat (first | refine To.go ?_ | ((with_reducible apply opt);(· (rfl))) | with_reducible refine ifF (not_not_intro rfl) ?_)
 have hT1:=hT.b.keep (σ':=σ2) λb _ hb=>s2.get b hb
 have g3:=g2.bump 2
 refine zgO hx (h2.bump 2) lL hLl (hT1.keep λ_ _ _=>rfl) (by simp only [Mem.next_bump];omega) (λb hb=>.inl (by have:=h.lt b hb;omega)) lD hDl (hT2.b.keep λ_ _ _=>rfl) (by simp only [Mem.next_bump];omega) (λb hb=>.inl (by have:=h.lt b hb;omega)) hF (λe he o' σ' g=>herr e he o' σ' (g3.trans g)) (λa q he o' v' σ' g h'=>hok a q he o' v' σ' (g3.trans g) h')
end
theorem zcV:ziU.length=288:=zW _ _
theorem zgz:zkT.length=32:=zW _ _
def zhD (r:Except Int (List UInt8×Nat)):AV:=match r with
 | .ok (a,q)=>.tup [.str ⟨a.toArray⟩,.int .i64 (((q+7) / 8:Nat):Int),.int .i64 0]
 | .error e=>.tup [.str ⟨#[]⟩,.int .i64 0,.int .i64 e]
theorem zlB {s:ByteArray}:∀ (ws:List Nat) (acc:List Int) {p q:Nat} {l:List Int},zgG ws acc s p=.ok (l,q)->q=p+ws.sum
 | [],acc,p,q,l,h=>by
   unfold zgG z0i at h
   injection h with h
   rw [<- (Prod.mk.inj h).2];rfl
 | w::ws,acc,p,q,l,h=>by
   unfold zgG at h
   cases e:zZ w s p with
   | error z=>rw [za e] at h;exact absurd h (by simp)
   | ok y=>
     obtain ⟨a,q1⟩:=y
     rw [z9 e] at h
     have h1:=zlB ws _ h
     have:q1=p+w:=by
      unfold zZ at e
      split at e
      · exact absurd e (by simp)
      · injection e with e
        exact (Prod.mk.inj e).2.symm
     rw [h1,this,List.sum_cons];omega
def zq4 (σ:Mem) (s:ByteArray) (most:Int) (F:Nat) (R:Except Int (List UInt8×Nat)) (x r:Nat) (f:Nat) (done:Bool) (σ':Mem):Prop:=
 ∃ o out p v,(if done=true then R=.ok (out,p) else z6P most F f out s p=R/\8*s.size<f+p)/\Smv σ' o x r s p most out v/\σ.Same σ'/\∀ b∈o,σ.next<=b
theorem ze7 {σ:Mem} {s:ByteArray} {most:Int} {F:Nat} (hs:s.size<=2^50) (hm : -9223372036854775808<=most/\most<=2^40) (hF:8*s.size<F) :
 z1 PG z4r [.str s,.int .i64 most] σ λw σ'=>w=zhD (za6 most F s 0)/\σ.Same σ':=by
 refine zbc λlive=>?_
 unfold z7k
 refine z0 (zn7 s (σ.bump 9)) ?_
 rintro _ σ1 ⟨r,rfl,r1,r2,gr,s1⟩
 have n1:=s1.next
 simp only [Mem.next_bump] at n1 r1
 replace s1:=s1.ob
 obtain ⟨x,hx⟩:∃ x,x=σ.next+7:=⟨_,rfl⟩
 rw [<- hx]
 repeat (refine To.go ?_)
 refine And.intro rfl ?_
 have hnew:(setAt (setAt [AV.nilp,AV.nils,AV.int IntKind.i64 0] 0 (AV.ptr r 0).cells) 2 [AV.int IntKind.i64 most])=[.ptr r 0,.nils,.int .i64 most]:=rfl
 rw [hnew]
 clear hnew
 refine To.go ?_
 obtain ⟨R,hRR⟩:∃ R,za6 most F s 0=R:=⟨_,rfl⟩
 rw [hRR]
 refine loop1 (g1:=.b) (zq4 σ s most F R x r) (λf=>f) F ⟨[x,r],[],0,.nils,?_,?_,?_,?_⟩ ?_
 · exact ⟨hRR,by omega⟩
 · refine ⟨rfl,by omega,by simp [z3],by simp [z3],?_,?_,z1Q.nil 1 _,Nat.zero_le _,λb hb=>?_,.inl rfl,hm,hs⟩
   · rw [Mem.get_bump,gS']
   · rw [Mem.get_bump,Mem.get_put_ne _ (by omega)];exact gr
   · simp only [Mem.next_put,Mem.next_bump]
     simp only [List.mem_cons,List.not_mem_nil,or_false] at hb
     omega
 · repeat (with_reducible first | assumption | refine Mem.Same.bump ?_ _ | refine Mem.Same.put ?_ (by omega) _)
 · intro b hb
   simp only [List.mem_cons,List.not_mem_nil,or_false] at hb
   omega
 rintro f done σ1 ⟨o,out,p,v,hR,h,s1,ho⟩
 clear hRR
 have n1:=s1.next
 unfold z5q
 rw [<- hx]
 cases done with
 | true=>
   obtain rfl:R=.ok (out,p):=hR
   obtain ⟨r',hr'⟩:∃ r',r'=r:=⟨_,rfl⟩
   rw [<- hr'] at h
   repeat (refine To.go ?_)
   refine ldrw h.gx (v:=v) rfl ?_
   refine z1Q.bstr (σ:=σ1.bump 19) (h.own.keep λ_ _=>rfl) ?_
   refine To.go ?_
   refine ldrw h.gx (v:=.ptr r' 0) rfl ?_
   refine z0 (z86 (σ:=σ1.bump 19) (by omega) h.gr h.le) ?_
   rintro _ σ2 ⟨rfl,s2⟩
   have s2':=s2.ob
   have hle:=h.le
   refine To.go ?_
   refine And.intro (s2.get x (h.bump 19 |>.lt x (by rw [h.eqo];simp))) ?_
   have hfin:∀ X:Prop,X->zgF.sameW (σ1.bump 19) σ2 v X:=by
    intro X hX
    rcases h.own with ⟨rfl,_,_⟩ | ⟨b,rfl,_,_⟩
    · refine To.go ?_;exact hX
    · refine To.go ?_
      exact ⟨s2.get b (h.bump 19 |>.lt b (by rw [h.eqo];simp [z3])),hX⟩
   refine hfin _ ?_
   repeat (first | refine To.go ?_ | with_reducible refine And.intro (by omega) ?_)
   refine ⟨?_,s1.trans s2'⟩
   show _=AV.tup _
   rw [show (s.size:Int)-((8*s.size-p:Nat):Int) / 8=(((p+7) / 8:Nat):Int) from by omega]
 | false=>
   obtain ⟨hR,hF'⟩:z6P most F f out s p=R/\8*s.size<f+p:=hR
   have hle:=h.le
   obtain ⟨f,rfl⟩:∃ f',f=f'+1:=⟨f-1,by omega⟩
   unfold z6P at hR
   repeat (refine To.go ?_)
   refine zu ?_
   obtain ⟨lb,hlb⟩:∃ b,σ1.next+3=b:=⟨_,rfl⟩
   rw [hlb]
   refine To.go ?_
   obtain ⟨σ2,h2⟩:∃ σ2,σ2=(σ1.bump 10).put lb (some (.rw [.int .i64 1,.int .i64 2])):=⟨_,rfl⟩
   rw [<- h2]
   have s2:σ1.Same σ2:=by rw [h2];repeat (with_reducible first | exact Mem.Same.refl _ | refine Mem.Same.bump ?_ _ | refine Mem.Same.put ?_ (by omega) _)
   have n2:σ2.next=σ1.next+10:=by rw [h2];rfl
   have e2:σ2.get lb=some (.rw (ic ([1,2].map λ(n:Nat)=>(n:Int)))):=by rw [h2,gS'];rfl
   clear h2
   have ho1:=h.lt
   have hs2:=h.keep (λb hb=>s2.get b (ho1 b hb)) s2.next
   refine z0 (z8F (ws:=[1,2]) hs2 (.mk (b:=lb) rfl ⟨_,e2,rfl⟩ rfl) (λb hb=>?_) (by decide) (by decide)) ?_
   · simp [z3] at hb;subst hb
     exact ⟨λhm=>by have:=ho1 b hm;omega,by omega⟩
   rintro w σ3 ⟨g3,hw⟩
   have g3:=h.g0.then s2 |>.trans g3
   have s3:=(g3.same s1 ho).1
   cases e:zgG [1,2] [] s p with
   | error z=>
     rw [e] at hw
     obtain ⟨c,rfl⟩:=hw
     have hz:=Fr.ne (.sev _ _) h.le e
     rw [za e] at hR
     subst hR
     repeat (first | refine To.go ?_ | ((with_reducible apply opt);(· (rfl))) | with_reducible refine ifT (by omega) ?_)
     exact ⟨rfl,s3.bump _⟩
   | ok y=>
     obtain ⟨hd,q⟩:=y
     rw [e] at hw
     obtain ⟨c,rfl,hc,hcb,h3⟩:=hw
     rw [z9 e] at hR
     obtain ⟨vs,hvs,hvl,hvb⟩:=ziB _ _ e
     match vs,hvl with
     | [a0,a1],_=>
     have b0:a0<2:=hvb 0 (by decide) (by simp)
     have b1:a1<4:=hvb 1 (by decide) (by simp)
     obtain rfl:hd=[(a0:Int),(a1:Int)]:=by rw [hvs];rfl
     have hpq:p+3<=q:=by
      have:=zlB _ _ e
      simp at this;omega
     clear hvs hvb hvl e
     have d0:([(a0:Int),(a1:Int)].getD 0 0)=a0:=by simp
     have d1:([(a0:Int),(a1:Int)].getD 1 0)=a1:=by simp
     rw [d0,d1] at hR
     clear d0 d1
     obtain ⟨bb,bz,bc,rfl,hg0⟩:=hc.at (i:=0) (by simp)
     obtain ⟨bb,bz,bc,hq,hg1⟩:=hc.at (i:=1) (by simp)
     injection hq with q1 q2 q3 q4
     subst q1 q2 q4
     simp only [List.getElem_cons_zero,List.getElem_cons_succ,List.length_cons,List.length_nil] at hg0 hg1
     have rd0:∀ {K:Int->Prop} (n:Nat),K a0->ldI (σ3.bump n) (.ptr bb bz) K:=λn hk=>by
      refine To.go ?_
      exact hg0 n (by refine To.go ?_;exact hk)
     have rd1:∀ {K:Int->Prop} (n:Nat),K a1->ldI (σ3.bump n) (.ptr bb (bz+1)) K:=λn hk=>by
      refine To.go ?_
      exact hg1 n (by refine To.go ?_;exact hk)
     repeat (first | refine To.go ?_ | ((with_reducible apply opt);(· (rfl))) | with_reducible refine ifF (not_not_intro rfl) ?_)
     refine And.intro (by simp) ?_
     refine rd0 _ ?_
     refine To.go ?_
     refine And.intro (by simp) ?_
     refine rd1 _ ?_
     clear rd0 rd1 hg0 hg1 q3 hc
     have herr:∀ {z},zb6 most F (a1:Int) out s q=.error z->R=.error z:=λ{z} he=>by rw [za he] at hR;exact hR.symm
     have hok:∀ a q2,zb6 most F (a1:Int) out s q=.ok (a,q2)->∀ o' v' σ',Grow o o' σ1 σ'->Smv σ' o' x r s q2 most a v'->z3c (λ(x1:Bool) σ_1=>Again (∃ j,zq4 σ s most F R x r j x1 σ_1/\j<f+1)) (decide ((a0:Int)=1)) σ':=by
      intro a q2 he o' v' σ' g h'
      have hq2:=(Fr.le (.block _ _ _ _) h3.le he).1
      rw [z9 he] at hR
      unfold z3c
      have hs:=g.same s1 ho
      refine again ⟨f,⟨o',a,q2,v',?_,h',hs.1,hs.2⟩,by omega⟩
      by_cases h01:(a0:Int)=1
      · rw [if_pos h01] at hR
        rw [if_pos (decide_eq_true h01)]
        exact hR.symm
      · rw [if_neg h01] at hR
        rw [if_neg (by simpa using h01)]
        exact ⟨hR,by omega⟩
     clear hR hcb b0 hs2 e2 s2
     have hsame:∀ {o' σ'},Grow o o' σ1 σ'->σ.Same σ':=λg=>(g.same s1 ho).1
     unfold zb6 at hok herr
     rcases (by omega:a1=0\/a1=1\/a1=2\/a1=3) with rfl | rfl | rfl | rfl
     · rw [if_pos (show ((0:Nat):Int)=0 by decide)] at hok herr
       repeat (with_reducible refine ifT rfl ?_)
       refine z0 (zeJ (h3.bump 17)) ?_
       rintro w σ4 ⟨o4,g4,hw⟩
       replace g4:=g3.trans g4.ob
       cases e:z6L most out s q with
       | error z=>
         rw [e] at hw
         subst hw
         have hz:=Fr.ne (.stored _ _) h3.le e
         rw [herr e]
         repeat (first | refine To.go ?_ | with_reducible refine ifT (by omega) ?_)
         exact ⟨rfl,(hsame g4).bump _⟩
       | ok y=>
         obtain ⟨a,q2⟩:=y
         rw [e] at hw
         obtain ⟨rfl,v4,h4⟩:=hw
         repeat (first | refine To.go ?_ | with_reducible refine ifF (not_not_intro rfl) ?_)
         exact hok a q2 e _ _ _ (g4.bump _) (h4.bump _)
     · rw [if_neg (show ¬ ((1:Nat):Int)=0 by decide),if_pos (show ((1:Nat):Int)=1 by decide)] at hok herr
       repeat (with_reducible refine ifF (by omega) ?_)
       refine zu ?_
       repeat (with_reducible refine ifT rfl ?_)
       refine z0 (zgE (σ3.bump 22)) ?_
       rintro _ σ4 ⟨ba,bd,rfl,h1,h2,hb1,hb2,s4⟩
       have s4':=s4.ob
       repeat (first | refine To.go ?_ | ((with_reducible apply opt);(· (rfl))))
       refine zbg hx (h3.keep (λb hb=>s4'.get b (h3.lt b hb)) s4'.next) (L:=ziU) (D:=zkT) (F:=F) (.mk rfl ⟨_,h1,rfl⟩ rfl) (.mk rfl ⟨_,h2,rfl⟩ rfl) (λz hz=>?_) (by rw [zcV];omega) (by rw [zgz];omega) (by omega) ?_ ?_
       · have:z=bd:=by simpa [z3] using hz
         omega
       · intro e he o' σ' g
         exact ⟨by rw [herr he];rfl,hsame (g3.then s4' |>.trans g)⟩
       · intro a q2 he o' v' σ' g h'
         exact hok a q2 he _ _ _ (g3.then s4' |>.trans g) h'
     · rw [if_neg (show ¬ ((2:Nat):Int)=0 by decide),if_neg (show ¬ ((2:Nat):Int)=1 by decide),if_pos (show ((2:Nat):Int)=2 by decide)] at hok herr
       repeat (with_reducible refine ifF (by omega) ?_)
       refine zu ?_
       repeat (first | with_reducible refine ifT rfl ?_ | with_reducible refine ifF (by omega) ?_)
       refine z0 (zdT (h3.bump 27)) ?_
       rintro w σ4 ⟨g4,hw⟩
       have n4:=g4.only.next
       replace g4:=g3.trans g4.ob
       cases e:zo9 s q with
       | error z=>
         rw [e] at hw
         obtain ⟨a,b,rfl⟩:=hw
         have hz:=Fr.ne .dyn h3.le e
         rw [za e] at herr
         rw [herr rfl]
         repeat (first | refine To.go ?_ | ((with_reducible apply opt);(· (rfl))) | with_reducible refine ifT (by omega) ?_)
         exact ⟨rfl,(hsame g4).bump _⟩
       | ok y=>
         obtain ⟨⟨L,D⟩,q2⟩:=y
         rw [e] at hw
         obtain ⟨a,b,rfl,hLr,hDr,hbl,hl1,hl2,h4⟩:=hw
         have hq2:=(Fr.le .dyn h3.le e).1
         rw [z9 e] at herr hok
         repeat (first | refine To.go ?_ | ((with_reducible apply opt);(· (rfl))) | with_reducible refine ifF (not_not_intro rfl) ?_)
         refine zbg hx (h4.bump 2) (L:=L) (D:=D) (F:=F) (hLr.keep λ_ _=>rfl) (hDr.keep λ_ _=>rfl) (λz hz=>?_) hl1 hl2 (by omega) ?_ ?_
         · have:=hbl z (by simp [hz]);simp only [Mem.next_bump];omega
         · intro e he o' σ' g
           exact ⟨by rw [herr he];rfl,hsame (g4.trans g.ob)⟩
         · intro a q2 he o' v' σ' g h'
           exact hok a q2 he _ _ _ (g4.trans g.ob) h'
     · rw [if_neg (show ¬ ((3:Nat):Int)=0 by decide),if_neg (show ¬ ((3:Nat):Int)=1 by decide),if_neg (show ¬ ((3:Nat):Int)=2 by decide)] at herr
       rw [herr rfl]
       repeat (with_reducible refine ifF (by omega) ?_)
       refine zu ?_
       repeat (with_reducible refine ifF (by omega) ?_)
       exact ⟨rfl,(hsame g3).bump _⟩
end
end Go.Vit
end
