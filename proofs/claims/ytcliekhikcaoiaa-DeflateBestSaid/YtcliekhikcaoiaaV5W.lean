/- The library. -/
import Derived.Test.YtcliekhikcaoiaaV5U
set_option linter.unusedVariables false
set_option linter.unusedSimpArgs false
section
/- Inflate's walk 1 (as in the third seat) -/
set_option linter.unusedSimpArgs false
set_option maxRecDepth 20000
namespace Go.Vit
open Go.Proofs
section
theorem Fr.ne {α:Type} {m:Rd α} (h:Fr m) {s:ByteArray} {p:Nat} {e:Int} (hp:p<=8*s.size) (he:m s p=.error e):e≠0:=by
 have:=h s ByteArray.empty p hp
 rw [he] at this
 exact this.1
theorem Fr.le {α:Type} {m:Rd α} (h:Fr m) {s:ByteArray} {p q:Nat} {a:α} (hp:p<=8*s.size) (he:m s p=.ok (a,q)):p<=q/\q<=8*s.size:=by
 have:=h s ByteArray.empty p hp
 rw [he] at this
 exact ⟨this.1,this.2.1⟩
structure Smv (σ:Mem) (o:List Nat) (x r:Nat) (s:ByteArray) (p:Nat) (most:Int) (out:List UInt8) (v:AV):Prop where
 eqo:o=x::r::blkOf v
 xr:x≠r
 xv:x ∉ blkOf v
 rv:r ∉ blkOf v
 gx:σ.get x=some (.rw [.ptr r 0,v,.int .i64 most])
 gr:σ.get r=some (rdP s p)
 own:OwnS 1 σ v (bl out) out.length
 le:p<=8*s.size
 lt:∀ b∈o,b<σ.next
 room:out=[]\/(out.length:Int)<=most
 ms : -9223372036854775808<=most/\most<=2^40
 sz:s.size<=2^50
def Sm (σ:Mem) (o:List Nat) (x r:Nat) (s:ByteArray) (p:Nat) (most:Int) (out:List UInt8):Prop:=∃ v,Smv σ o x r s p most out v
section
variable {σ σ':Mem} {o:List Nat} {x r p:Nat} {s:ByteArray} {most:Int} {out:List UInt8} {v:AV}
theorem Smv.keep (h:Smv σ o x r s p most out v) (hg:∀ b∈o,σ'.get b=σ.get b) (hn:σ.next<=σ'.next):Smv σ' o x r s p most out v:=by
 obtain ⟨rfl,h2,h3,h4,h5,h6,h7,h8,h9,h10,h11,h12⟩:=h
 exact ⟨rfl,h2,h3,h4,(hg x (by simp)).trans h5,(hg r (by simp)).trans h6,h7.keep fun b hb=>hg b (by simp [hb]),h8,fun b hb=>Nat.lt_of_lt_of_le (h9 b hb) hn,h10,h11,h12⟩
theorem Sm.keep (h:Sm σ o x r s p most out) (hg:∀ b∈o,σ'.get b=σ.get b) (hn:σ.next<=σ'.next):Sm σ' o x r s p most out:=by
 obtain ⟨v,h⟩:=h;exact ⟨v,h.keep hg hn⟩
theorem Smv.bump (h:Smv σ o x r s p most out v) (k:Nat):Smv (σ.bump k) o x r s p most out v:=h.keep (fun _ _=>rfl) (Nat.le_add_right _ _)
theorem Sm.bump (h:Sm σ o x r s p most out) (k:Nat):Sm (σ.bump k) o x r s p most out:=h.keep (fun _ _=>rfl) (Nat.le_add_right _ _)
theorem Smv.g0 (h:Smv σ o x r s p most out v):Grow o o σ σ:=.refl h.lt
theorem Smv.read {q:Nat} (h:Smv σ o x r s p most out v) (h1:σ'.get r=some (rdP s q)) (h2:Mem.Only [r] σ σ') (hq:q<=8*s.size):Smv σ' o x r s q most out v/\Grow o o σ σ':=by
 obtain ⟨rfl,g2,g3,g4,g5,g6,g7,g8,g9,g10,g11,g12⟩:=h
 have k:∀ b,b<σ.next->b≠r->σ'.get b=σ.get b:=fun b hb hn=>h2.get b hb (by simpa using hn)
 refine ⟨⟨rfl,g2,g3,g4,(k x (g9 x (by simp)) g2).trans g5,h1,g7.keep fun b hb=>k b (g9 b (by simp [hb])) fun e=>g4 (e ▸ hb),hq,fun b hb=>Nat.lt_of_lt_of_le (g9 b hb) h2.next,g10,g11,g12⟩,⟨h2.next,fun b hb hn=>?_⟩,fun b hb=>.inl hb,fun b hb=>Nat.lt_of_lt_of_le (g9 b hb) h2.next⟩
 exact k b hb fun e=>hn (by simp [e])
theorem Smv.reach (h:Smv σ o x r s p most out v):s.size<=2^50:=h.sz
theorem Smv.bits {n:Nat} (h:Smv σ o x r s p most out v) (hn:n<=24):ACalls PG n_bits_Reader_Bits [.ptr r 0,.int .i64 (n:Nat)] σ fun w σ'=>Grow o o σ σ'/\match rBits n s p with
 | .ok (a,q)=>w=.tup [.int .i64 (a:Nat),.int .i64 0]/\Smv σ' o x r s q most out v
 | .error e=>w=.tup [.int .i64 0,.int .i64 e]:=by
 refine (bits_Reader_Bits h.reach h.gr h.le).mono ?_
 rintro _ σ' ⟨rfl,h1,h2⟩
 rw [rdBits_of h.le hn] at h1 ⊢
 cases e:rBits n s p with
 | error z=>
   rw [e] at h1
   exact ⟨(h.read h1 h2 h.le).2,rfl⟩
 | ok y=>
   obtain ⟨a,q⟩:=y
   rw [e] at h1
   have:=h.read h1 h2 (Fr.le (.bits n) h.le e).2
   exact ⟨this.2,rfl,this.1⟩
theorem Smv.bytes {n:Nat} (h:Smv σ o x r s p most out v):ACalls PG n_bits_Reader_Bytes [.ptr r 0,.int .i64 (n:Nat)] σ fun w σ'=>Grow o o σ σ'/\match rBytes n s p with
 | .ok (a,q)=>w=.tup [.str a,.int .i64 0]/\Smv σ' o x r s q most out v
 | .error e=>w=.tup [.str ByteArray.empty,.int .i64 e]:=by
 refine (bits_Reader_Bytes h.reach h.gr h.le).mono ?_
 rintro _ σ' ⟨rfl,h1,h2⟩
 rw [rdBytes_of h.le] at h1 ⊢
 cases e:rBytes n s p with
 | error z=>
   rw [e] at h1
   exact ⟨(h.read h1 h2 (by have:=h.le;show 8*((p+7) / 8)<=_;omega)).2,rfl⟩
 | ok y=>
   obtain ⟨a,q⟩:=y
   rw [e] at h1
   have:=h.read h1 h2 (Fr.le (.bytes n) h.le e).2
   exact ⟨this.2,rfl,this.1⟩
theorem Smv.next {lo hi t:Nat} {L:List Int} (h:Smv σ o x r s p most out v) (hL:lens L) (ht:TabB lo hi L σ t) (hhi:hi<=σ.next) (hr:r<lo\/hi<=r):ACalls PG n_huff_Table_Next [.ptr t 0,.ptr r 0] σ fun w σ'=>Grow o o σ σ'/\Mem.Only [r] σ σ'/\match rNext L s p with
 | .ok (a,q)=>w=.tup [.int .i64 a,.int .i64 0]/\Smv σ' o x r s q most out v
 | .error e=>∃ c,w=.tup [.int .i64 c,.int .i64 e]:=by
 refine (huff_Next hL ht hhi hr h.reach h.gr h.le).mono ?_
 rintro _ σ' ⟨rfl,h1,h2⟩
 have hle:=dec_le (L:=L) (s:=s) (mostN L) 1 0 h.le
 have hR:=h.read h1 h2 hle
 unfold rNext
 by_cases h0:(dec L s (mostN L) 1 0 p).2.1=0
 · rw [if_pos h0]
   exact ⟨hR.2,h2,by rw [h0],hR.1⟩
 · rw [if_neg h0]
   exact ⟨hR.2,h2,_,rfl⟩
theorem Smv.push {bytes:List UInt8} {σ2:Mem} {id m:Nat} {src:AV} {K:Mem->Prop} (h:Smv σ o x r s p most out v) (s2:σ.Same σ2) (hx:∀ K:Nat->List AV->Prop,K m (bl bytes)->srcW σ2 1 src K) (hm:bytes.length=m) (hid:σ.next<=id/\id<σ2.next) (hroom:bytes=[]\/(out.length:Int)+bytes.length<=most)
 (hk:∀ o' v' σ',Smv σ' o' x r s p most (out++bytes) v'->Grow o o' σ σ'->σ'.next=σ2.next->K σ'):apW 1 1 id σ2 v src fun v' σ3=>nfW 1 (.ptr x 0) fun w=>stW 1 σ3 w v' K:=by
 obtain ⟨rfl,g2,g3,g4,g5,g6,g7,g8,g9,g10,g11,g12⟩:=h
 have hm47:out.length+m<=2^40:=by
  rcases hroom with rfl | hr
  · rcases g10 with rfl | h
    · simp at hm ⊢;omega
    · simp at hm;omega
  · omega
 refine OwnS.append (n:=out.length) (m:=m) (cs:=bl out) (c:=bl bytes) (g7.keep fun b hb=>s2.get b (g9 b (by simp [hb]))) hx (fun e=>by rw [List.length_eq_zero_iff.1 (hm.trans e)];rfl) (by rw [bl_length];omega) (bl_one _) (bl_one _) (by omega) (fun hb=>by have:=g9 id (by simp [hb]);omega) ?_
 intro v' σ3 own3 hn3 hg3 hb3
 rw [bl_append] at own3
 have hx1:x<σ.next:=g9 x (by simp)
 have hr1:r<σ.next:=g9 r (by simp)
 have k3:∀ b,b<σ.next->b ∉ blkOf v->σ3.get b=σ.get b:=fun b hb hn=>by rw [hg3 b hn (by omega),s2.get b hb]
 have x3:σ3.get x=some (.rw [.ptr r 0,v,.int .i64 most]):=by rw [k3 x hx1 g3];exact g5
 have hv':∀ b∈blkOf v',(b∈blkOf v/\b<σ.next)\/b=id:=fun b hb=>(hb3 b hb).imp (fun h=>⟨h,g9 b (by simp [h])⟩) fun h=>h
 have xv':x ∉ blkOf v':=fun hb=>by rcases hv' x hb with h | h;exact g3 h.1;omega
 have rv':r ∉ blkOf v':=fun hb=>by rcases hv' r hb with h | h;exact g4 h.1;omega
 refine To.go ?_
 refine st1 x3 (by simp) own3.rdO.one ?_
 refine hk (x::r::blkOf v') v' _ ⟨rfl,g2,xv',rv',by rw [gS'];rfl,?_,?_,g8,?_,?_,g11,g12⟩ ⟨⟨?_,?_⟩,?_,?_⟩ hn3
 · rw [Mem.get_put_ne _ g2.symm,k3 r hr1 g4];exact g6
 · rw [List.length_append,hm]
   exact own3.keep fun b hb=>by rw [Mem.get_put_ne _ (by rintro rfl;exact xv' hb)]
 · intro b hb
   rw [Mem.next_put,hn3]
   simp only [List.mem_cons] at hb
   have:=s2.next
   rcases hb with rfl | rfl | hb
   · omega
   · omega
   · rcases hv' b hb with h | h<;>omega
 · rcases hroom with rfl | hr
   · rw [List.append_nil];exact g10
   · right;rw [List.length_append];omega
 · rw [Mem.next_put,hn3];exact s2.next
 · intro b hb hn
   simp only [List.mem_cons,not_or] at hn
   rw [Mem.get_put_ne _ hn.1,k3 b hb hn.2.2]
 · intro b hb
   simp only [List.mem_cons] at hb ⊢
   rcases hb with h | h | h
   · exact .inl (.inl h)
   · exact .inl (.inr (.inl h))
   · rcases hv' b h with h | h
     · exact .inl (.inr (.inr h.1))
     · exact .inr (by omega)
 · intro b hb
   rw [Mem.next_put,hn3]
   simp only [List.mem_cons] at hb
   have:=s2.next
   rcases hb with rfl | rfl | hb
   · omega
   · omega
   · rcases hv' b hb with h | h<;>omega
end
end
end Go.Vit
end
section
/- Inflate's walk 2 (as in the third seat) -/
set_option linter.unusedSimpArgs false
set_option maxRecDepth 20000
namespace Go.Vit
open Go.Proofs
section
section
variable {σ σ':Mem} {o:List Nat} {x r p:Nat} {s:ByteArray} {most:Int} {out:List UInt8} {v:AV}
end
end
end Go.Vit
end
section
/- Inflate's walk 3 (as in the third seat) -/
set_option linter.unusedSimpArgs false
set_option maxRecDepth 20000
namespace Go.Vit
open Go.Proofs
section
section
variable {σ σ':Mem} {o:List Nat} {x r p:Nat} {s:ByteArray} {most:Int} {out:List UInt8} {v:AV}
end
end
end Go.Vit
end
section
/- Inflate's walk 4 (as in the third seat) -/
set_option linter.unusedSimpArgs false
set_option maxRecDepth 20000
namespace Go.Vit
open Go.Proofs
section
section
variable {σ σ':Mem} {o:List Nat} {x r p:Nat} {s:ByteArray} {most:Int} {out:List UInt8} {v:AV}
def fixF (j:Nat):Int:=if 280<=j\/j<144 then 8 else if j<256 then 9 else 7
theorem fixL_eq:fixL=arr fixF 288:=rfl
end
end
end Go.Vit
end
section
/- Inflate's walk 5 (as in the third seat) -/
set_option linter.unusedSimpArgs false
set_option maxRecDepth 20000
namespace Go.Vit
open Go.Proofs
section
section
variable {σ σ':Mem} {o:List Nat} {x r p:Nat} {s:ByteArray} {most:Int} {out:List UInt8} {v:AV}
theorem ordr_lt {i:Nat} (h:i<19):∃ j:Nat,ordr[i]? = some (j:Int)/\j<19:=by
 have:∀ i:Fin 19,∃ j:Fin 19,ordr[i.val]? = some ((j.val:Nat):Int):=by decide
 obtain ⟨j,hj⟩:=this ⟨i,h⟩
 exact ⟨j.val,hj,j.isLt⟩
end
end
end Go.Vit
end
section
/- Inflate's walk 6 (as in the third seat) -/
set_option linter.unusedSimpArgs false
set_option maxRecDepth 20000
namespace Go.Vit
open Go.Proofs
section
section
variable {σ σ':Mem} {o:List Nat} {x r p:Nat} {s:ByteArray} {most:Int} {out:List UInt8} {v:AV}
end
end
end Go.Vit
end
section
/- Inflate's walk 7 (as in the third seat) -/
set_option linter.unusedSimpArgs false
set_option maxRecDepth 20000
namespace Go.Vit
open Go.Proofs
section
section
variable {σ σ':Mem} {o:List Nat} {x r p:Nat} {s:ByteArray} {most:Int} {out:List UInt8} {v:AV}
theorem TabB.only {lo hi t:Nat} {D:List Int} {o:List Nat} (ht:TabB lo hi D σ t) (h:Mem.Only o σ σ') (hhi:hi<=σ.next) (ho:∀ b∈o,b<lo\/hi<=b):TabB lo hi D σ' t:=
 ht.keep fun b h1 h2=>h.get b (by omega) fun hm=>by have:=ho b hm;omega
end
end
end Go.Vit
end
section
/- Inflate's walk 8 (as in the third seat) -/
set_option linter.unusedSimpArgs false
set_option maxRecDepth 20000
namespace Go.Vit
open Go.Proofs
section
section
variable {σ σ':Mem} {o:List Nat} {x r p:Nat} {s:ByteArray} {most:Int} {out:List UInt8} {v:AV}
end
end
end Go.Vit
end
section
/- Inflate's walk 9 (as in the third seat) -/
set_option linter.unusedSimpArgs false
set_option maxRecDepth 20000
namespace Go.Vit
open Go.Proofs
section
section
variable {σ σ':Mem} {o:List Nat} {x r p:Nat} {s:ByteArray} {most:Int} {out:List UInt8} {v:AV}
end
theorem fixL_len:fixL.length=288:=arr_len _ _
theorem fixD_len:fixD.length=32:=arr_len _ _
end
end Go.Vit
end
