/- What is laid is read again: the words. -/
import Derived.Test.YtloeboiajgfigaaGreatV7D5
import Derived.Test.YtloeboiajgfigaaGreatVm3
set_option linter.unusedVariables false
set_option linter.unusedSimpArgs false
set_option maxRecDepth 20000
namespace Go.Vit
open Go.Proofs
theorem ziM (p:Nat×Nat) (v n:Int):Front p (lay p.1 p.2 v n):=by
 unfold lay
 split
 · exact .refl p
 · exact ⟨Nat.le_add_right _ _,_,rfl⟩
theorem zc9 (c:Nat):∀ (k:Nat) (p:Nat×Nat),Front p (ziA p c k)
 | 0,p=>.refl p
 | k+1,p=>(ziM p _ 1).trans (zc9 c k _)
theorem zm8 (L:List Int) (p:Nat×Nat) (x:Int):Front p (z3V L p x):=by
 unfold z3V
 split
 · exact zc9 _ _ _
 · exact .refl p
theorem znS (c:Nat):∀ (k:Nat) {p:Nat×Nat},p.1<2^p.2->(ziA p c k).1<2^(ziA p c k).2
 | 0,_,h=>h
 | k+1,_,h=>znS c k (zkO _ _ h)
theorem zq0 (L:List Int) {p:Nat×Nat} (x:Int) (h:p.1<2^p.2):(z3V L p x).1<2^(z3V L p x).2:=by
 unfold z3V
 split
 · exact znS _ _ h
 · exact h
theorem zoH {p q:Nat×Nat} {v:Nat} (hp:p.1<2^p.2) (h:Front (lay p.1 p.2 (v:Int) 1) q):¬ 8*(text q.1 q.2).size<=p.2/\z4E (text q.1 q.2) p.2=v % 2:=by
 have h1:=h.1
 rw [zed] at h1
 have hs:¬ 8*(text q.1 q.2).size<=p.2:=by rw [z5d];omega
 have h2:=ziz (n:=1) (by omega) hp h
 rw [show (((1:Nat):Int))=1 from rfl,zfX hs] at h2
 injection h2 with h2
 refine ⟨hs,?_⟩
 rw [h2]
 omega
theorem zl6 {L:List Int} {q:Nat×Nat} {n i:Nat} (hc:chk L=0) (h0:0<n) (hi:i<L.length) (h:L.getD i 0=n):∀ (k:Nat) {p:Nat×Nat} (f:Nat),0<k->k<=n->k<=f->p.1<2^p.2->Front (ziA p (cd L i) k) q->dec L (text q.1 q.2) f (n-k+1) (cd L i / 2^k) p.2=(((i:Nat):Int),0,p.2+k)
 | 0,_,_,hk,_,_,_,_=>by omega
 | k+1,p,0,_,_,hf,_,_=>by omega
 | k+1,p,f+1,_,hk,hf,hp,hq=>by
   have hl:Front (lay p.1 p.2 ((cd L i / 2^k:Nat):Int) 1) q:=(zc9 _ _ _).trans hq
   obtain ⟨hs,hb⟩:=zoH hp hl
   have hcode:2*(cd L i / 2^(k+1))+cd L i / 2^k % 2=cd L i / 2^k:=by
    rw [Nat.pow_succ,<- Nat.div_div_eq_div_mul];omega
   rw [dec,if_neg hs,hb,hcode,show n-(k+1)+1=n-k from by omega]
   have hcd:=zo3 h0 h
   rcases Nat.eq_zero_or_pos k with rfl | hk0
   · have hlt:=z45 h0 hi (Nat.le_refl _) h
     rw [List.take_length] at hlt
     obtain ⟨j,hj,hjn,hjk,hf'⟩:=zl5 (L:=L) (n:=n) (c:=cd L i) h0 (by omega) (by omega)
     have hji:j=i:=by
      rcases Nat.lt_trichotomy j i with hlt' | rfl | hlt'
      · have:=z45 h0 hlt' (by omega) hjn;omega
      · rfl
      · have:=z45 h0 hlt' (by omega) h;omega
     rw [Nat.pow_zero,Nat.div_one,Nat.sub_zero,hf',hji]
   · have hno:fnd L (n-k) (cd L i / 2^k)=none:=by
      refine zpo (by omega) ?_
      rw [Nat.le_div_iff_mul_le (Nat.two_pow_pos _)]
      obtain ⟨m,rfl⟩:∃ m,k=m+1:=⟨k-1,by omega⟩
      have:=zr3 L (n-(m+1)) m
      rw [show n-(m+1)+(m+1)=n from by omega] at this
      omega
     rw [hno]
     have ih:=zl6 hc h0 hi h k (p:=lay p.1 p.2 ((cd L i / 2^k:Nat):Int) 1) (q:=q) f hk0 (by omega) (by omega) (zkO _ _ hp) hq
     rw [zed] at ih
     show dec L (text q.1 q.2) f (n-k+1) (cd L i / 2^k) (p.2+1)=_
     rw [ih,show p.2+1+k=p.2+(k+1) from by omega]
theorem zq5 {L:List Int} {p q:Nat×Nat} {x:Int} (hc:chk L=0) (hx:zoe L x) (hp:p.1<2^p.2) (h:Front (z3V L p x) q):dec L (text q.1 q.2) (z5X L) 1 0 p.2=(x,0,(z3V L p x).2):=by
 have hL:=zhH hc
 obtain ⟨h1,h2,h3⟩:=hx
 obtain ⟨i,rfl⟩:=z2w h1
 rw [Int.toNat_natCast] at h3
 have hi:i<L.length:=by omega
 have hb:=hL.2 _ (List.getElem_mem hi)
 rw [<- zp hi] at hb
 obtain ⟨n,hn⟩:=z2w hb.1
 have h0:0<n:=by rcases Nat.eq_zero_or_pos n with rfl | h;exact absurd hn h3;exact h
 have hS:z3V L p (i:Int)=ziA p (cd L i) n:=by unfold z3V;rw [if_pos ⟨h1,h2,by rw [Int.toNat_natCast];exact h3⟩,Int.toNat_natCast,hn,Int.toNat_natCast]
 rw [hS] at h ⊢
 have hlt:=(zmD hc h0 hi hn).1
 have:=zl6 hc h0 hi hn n (z5X L) h0 (Nat.le_refl _) (zoi hc h0 hi hn) hp h
 rw [Nat.div_eq_of_lt hlt,Nat.sub_self] at this
 rw [this,zgW]
theorem zmc {p q:Nat×Nat} {s:ByteArray} (hp:p.1<2^p.2) (h:Front (zi6 p.1 p.2 s) q):z6A (text q.1 q.2) p.2 (s.size:Nat)=(s,0,(zi6 p.1 p.2 s).2):=by
 have hq:=h.1
 unfold zi6 at hq ⊢
 dsimp only at hq ⊢
 have hs:=z5d q.1 q.2
 rw [z6A,if_neg (by omega),if_neg (by omega),Int.toNat_natCast]
 obtain ⟨a,ha⟩:∃ a,(p.2+7) / 8=a:=⟨_,rfl⟩
 rw [ha] at hq ⊢
 have hpa:p.1<2^(8*a):=Nat.lt_of_lt_of_le hp (z1y (by omega))
 refine Prod.ext ?_ rfl
 refine zbB ?_ λi hi=>?_
 · rw [size_extract];dsimp only;omega
 rw [size_extract] at hi
 rw [zR _ _ _ _ (by omega),ze2 (by omega)]
 have hl:zi6 p.1 p.2 s=(p.1+num s*2^(8*a),8*a+8*s.size):=by unfold zi6;rw [ha]
 rw [hl] at h
 obtain ⟨z,hz⟩:=ziY h (m:=8*(a+i)) (by dsimp only;omega)
 dsimp only at hz
 have hb:8*(a+i)=8*a+8*i:=by omega
 rw [hz,Nat.add_mod,zeo (by omega),Nat.add_zero,Nat.mod_mod,hb,Nat.pow_add,<- Nat.div_div_eq_div_mul,z3g _ _ (Nat.le_refl _),Nat.sub_self,Nat.pow_zero,Nat.mul_one,Nat.div_eq_of_lt hpa,Nat.zero_add,zlb _ (by omega)]
theorem zm4 {p:Nat×Nat} {s:ByteArray} (hp:p.1<2^p.2):Front p (laS p s):=by
 refine ⟨by unfold laS zi6;dsimp only;omega,num s*2^(8*((p.2+7) / 8)-p.2),?_⟩
 unfold laS zi6
 dsimp only
 rw [Nat.mul_assoc,<- Nat.pow_add,Nat.sub_add_cancel (by omega)]
def Says {α:Type} (m:Rd α) (p:Nat×Nat) (a:α) (p':Nat×Nat):Prop:=
 p.1<2^p.2->p'.1<2^p'.2/\Front p p'/\∀ q,Front p' q->m (text q.1 q.2) p.2=.ok (a,p'.2)
theorem Says.pure {α:Type} (a:α) (p:Nat×Nat):Says (z3q a) p a p:=λh=>⟨h,.refl p,λ_ _=>rfl⟩
theorem Says.bind {α β:Type} {m:Rd α} {f:α->Rd β} {a:α} {b:β} {p p1 p2:Nat×Nat} (h:Says m p a p1) (h2:Says (f a) p1 b p2):Says (z0X m f) p b p2:=λhp=>by
 obtain ⟨l1,f1,e1⟩:=h hp
 obtain ⟨l2,f2,e2⟩:=h2 l1
 exact ⟨l2,f1.trans f2,λq hq=>by rw [zi (e1 q (f2.trans hq))];exact e2 q hq⟩
theorem Says.ifT {α:Type} {c:Prop} [Decidable c] {a b:Rd α} {x:α} {p p':Nat×Nat} (hc:c) (h:Says a p x p'):Says (if c then a else b) p x p':=by rw [if_pos hc];exact h
theorem Says.ifF {α:Type} {c:Prop} [Decidable c] {a b:Rd α} {x:α} {p p':Nat×Nat} (hc:¬ c) (h:Says b p x p'):Says (if c then a else b) p x p':=by rw [if_neg hc];exact h
theorem Says.bits {p:Nat×Nat} {v n:Nat} (hn:n<=24) (hv:v<2^n):Says (z3h n) p v (laP p (v:Nat) (n:Nat)):=λhp=>by
 refine ⟨zkO _ _ hp,ziM _ _ _,λq hq=>?_⟩
 have h:=ziz (v:=(v:Nat)) hn hp hq
 have e:(((v:Nat):Int) % 2^n).toNat=v:=by
  have:((2:Int)^n)=((2^n:Nat):Int):=by simp
  rw [this,<- Int.natCast_emod,Nat.mod_eq_of_lt hv,Int.toNat_natCast]
 have hq2:=hq.1
 have h2:(laP p (v:Nat) (n:Nat)).2=p.2+n:=z0E p _ hn
 have hs:=z5d q.1 q.2
 rw [e,zi7 (by omega) hn] at h
 unfold z3h at h ⊢
 rw [if_neg (by omega)] at h ⊢
 dsimp only at h
 injection h with h1 h3
 rw [h1,h2]
theorem Says.bytes {p:Nat×Nat} {s:ByteArray} {n:Nat} (hn:n=s.size):Says (z4R n) p s (laS p s):=λhp=>by
 subst hn
 refine ⟨zjN s hp,zm4 hp,λq hq=>?_⟩
 have h:=zmc hp hq
 have hq2:=hq.1
 have h2:(laS p s).2=8*((p.2+7) / 8)+8*s.size:=rfl
 have hs:=z5d q.1 q.2
 rw [zg4 (by omega)] at h
 unfold z4R at h ⊢
 rw [if_neg (by omega)] at h ⊢
 dsimp only at h
 injection h with h1 h3
 rw [h1]
 rfl
theorem Says.next {L:List Int} {p:Nat×Nat} {x:Int} (hc:chk L=0) (hx:zoe L x):Says (z8f L) p x (z3V L p x):=λhp=>by
 refine ⟨zq0 _ _ hp,zm8 _ _ _,λq hq=>?_⟩
 have h:=zq5 hc hx hp hq
 unfold z8f
 rw [h]
 rfl
theorem Says.room {most:Int} {out:List UInt8} {n:Nat} {p:Nat×Nat} (h:(out.length:Int)+n<=most):Says (z9r most out n) p () p:=.ifF (by omega) (.pure _ _)
theorem Says.table {L:List Int} {p:Nat×Nat} (h:chk L=0):Says (z7M L) p () p:=.ifF (not_not_intro h) (.pure _ _)
theorem Says.all {α:Type} {m:Rd α} {a:α} {p:Nat×Nat} (h:Says m (0,0) a p) (fr:Fr m) (t:ByteArray):m (text p.1 p.2++t) 0=.ok (a,p.2):=by
 obtain ⟨_,_,e⟩:=h (by decide)
 have e:=e p (.refl p)
 have:=fr (text p.1 p.2) t 0 (by omega)
 rw [show ((0,0):Nat×Nat).2=0 from rfl] at e
 rw [e] at this
 exact this.2.2
/-! ### Lengths and distances -/
/-! ### Tokens -/
/-! ### Blocks -/
theorem zr0 {a b:Nat} (h:a<256):a ||| b*256=a+b*256:=by
 have:=Nat.two_pow_add_eq_or_of_lt (i:=8) (b:=a) h b
 rw [Nat.or_comm,Nat.mul_comm b 256,show (256:Nat)=2^8 from rfl,<- this];omega
def two (a b:Nat):ByteArray:=⟨#[UInt8.ofNat a,UInt8.ofNat b]⟩
end Go.Vit
