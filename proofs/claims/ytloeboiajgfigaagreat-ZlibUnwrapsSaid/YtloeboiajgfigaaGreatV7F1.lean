/- What is laid is read again: the words. -/
import Derived.Test.YtloeboiajgfigaaGreatV7D5
import Derived.Test.YtloeboiajgfigaaGreatVm3
set_option linter.unusedVariables false
set_option linter.unusedSimpArgs false
set_option maxRecDepth 20000
namespace Go.Vit
open Go.Proofs
theorem zhY (p:Nat×Nat) (v n:Int):Front p (lay p.1 p.2 v n):=by
 unfold lay
 split
 · exact .refl p
 · exact ⟨Nat.le_add_right _ _,_,rfl⟩
theorem zbO (c:Nat):∀ (k:Nat) (p:Nat×Nat),Front p (zhq p c k)
 | 0,p=>.refl p
 | k+1,p=>(zhY p _ 1).trans (zbO c k _)
theorem zlb (L:List Int) (p:Nat×Nat) (x:Int):Front p (z5m L p x):=by
 unfold z5m
 split
 · exact zbO _ _ _
 · exact .refl p
theorem zmS (c:Nat):∀ (k:Nat) {p:Nat×Nat},p.1<2^p.2->(zhq p c k).1<2^(zhq p c k).2
 | 0,_,h=>h
 | k+1,_,h=>zmS c k (zjj _ _ h)
theorem zoR (L:List Int) {p:Nat×Nat} (x:Int) (h:p.1<2^p.2):(z5m L p x).1<2^(z5m L p x).2:=by
 unfold z5m
 split
 · exact zmS _ _ h
 · exact h
theorem znK {p q:Nat×Nat} {v:Nat} (hp:p.1<2^p.2) (h:Front (lay p.1 p.2 (v:Int) 1) q):¬ 8*(text q.1 q.2).size<=p.2/\z2T (text q.1 q.2) p.2=v % 2:=by
 have h1:=h.1
 rw [zeb] at h1
 have hs:¬ 8*(text q.1 q.2).size<=p.2:=by rw [z5X];omega
 have h2:=zi3 (n:=1) (by omega) hp h
 rw [show (((1:Nat):Int))=1 from rfl,zbZ hs] at h2
 injection h2 with h2
 refine ⟨hs,?_⟩
 rw [h2]
 omega
theorem zjs {L:List Int} {q:Nat×Nat} {n i:Nat} (hc:chk L=0) (h0:0<n) (hi:i<L.length) (h:L.getD i 0=n):∀ (k:Nat) {p:Nat×Nat} (f:Nat),0<k->k<=n->k<=f->p.1<2^p.2->Front (zhq p (cd L i) k) q->dec L (text q.1 q.2) f (n-k+1) (cd L i / 2^k) p.2=(((i:Nat):Int),0,p.2+k)
 | 0,_,_,hk,_,_,_,_=>by omega
 | k+1,p,0,_,_,hf,_,_=>by omega
 | k+1,p,f+1,_,hk,hf,hp,hq=>by
   have hl:Front (lay p.1 p.2 ((cd L i / 2^k:Nat):Int) 1) q:=(zbO _ _ _).trans hq
   obtain ⟨hs,hb⟩:=znK hp hl
   have hcode:2*(cd L i / 2^(k+1))+cd L i / 2^k % 2=cd L i / 2^k:=by
    rw [Nat.pow_succ,<- Nat.div_div_eq_div_mul];omega
   rw [dec,if_neg hs,hb,hcode,show n-(k+1)+1=n-k from by omega]
   have hcd:=zlC h0 h
   rcases Nat.eq_zero_or_pos k with rfl | hk0
   · have hlt:=z4v h0 hi (Nat.le_refl _) h
     rw [List.take_length] at hlt
     obtain ⟨j,hj,hjn,hjk,hf'⟩:=zjf (L:=L) (n:=n) (c:=cd L i) h0 (by omega) (by omega)
     have hji:j=i:=by
      rcases Nat.lt_trichotomy j i with hlt' | rfl | hlt'
      · have:=z4v h0 hlt' (by omega) hjn;omega
      · rfl
      · have:=z4v h0 hlt' (by omega) h;omega
     rw [Nat.pow_zero,Nat.div_one,Nat.sub_zero,hf',hji]
   · have hno:fnd L (n-k) (cd L i / 2^k)=none:=by
      refine zou (by omega) ?_
      rw [Nat.le_div_iff_mul_le (Nat.two_pow_pos _)]
      obtain ⟨m,rfl⟩:∃ m,k=m+1:=⟨k-1,by omega⟩
      have:=zpR L (n-(m+1)) m
      rw [show n-(m+1)+(m+1)=n from by omega] at this
      omega
     rw [hno]
     have ih:=zjs hc h0 hi h k (p:=lay p.1 p.2 ((cd L i / 2^k:Nat):Int) 1) (q:=q) f hk0 (by omega) (by omega) (zjj _ _ hp) hq
     rw [zeb] at ih
     show dec L (text q.1 q.2) f (n-k+1) (cd L i / 2^k) (p.2+1)=_
     rw [ih,show p.2+1+k=p.2+(k+1) from by omega]
theorem zoX {L:List Int} {p q:Nat×Nat} {x:Int} (hc:chk L=0) (hx:znd L x) (hp:p.1<2^p.2) (h:Front (z5m L p x) q):dec L (text q.1 q.2) (z1T L) 1 0 p.2=(x,0,(z5m L p x).2):=by
 have hL:=zd4 hc
 obtain ⟨h1,h2,h3⟩:=hx
 obtain ⟨i,rfl⟩:=z20 h1
 rw [Int.toNat_natCast] at h3
 have hi:i<L.length:=by omega
 have hb:=hL.2 _ (List.getElem_mem hi)
 rw [<- zA hi] at hb
 obtain ⟨n,hn⟩:=z20 hb.1
 have h0:0<n:=by rcases Nat.eq_zero_or_pos n with rfl | h;exact absurd hn h3;exact h
 have hS:z5m L p (i:Int)=zhq p (cd L i) n:=by unfold z5m;rw [if_pos ⟨h1,h2,by rw [Int.toNat_natCast];exact h3⟩,Int.toNat_natCast,hn,Int.toNat_natCast]
 rw [hS] at h ⊢
 have hlt:=(zlJ hc h0 hi hn).1
 have:=zjs hc h0 hi hn n (z1T L) h0 (Nat.le_refl _) (znq hc h0 hi hn) hp h
 rw [Nat.div_eq_of_lt hlt,Nat.sub_self] at this
 rw [this,zg8]
theorem zkR {p q:Nat×Nat} {s:ByteArray} (hp:p.1<2^p.2) (h:Front (zjT p.1 p.2 s) q):z3i (text q.1 q.2) p.2 (s.size:Nat)=(s,0,(zjT p.1 p.2 s).2):=by
 have hq:=h.1
 unfold zjT at hq ⊢
 dsimp only at hq ⊢
 have hs:=z5X q.1 q.2
 rw [z3i,if_neg (by omega),if_neg (by omega),Int.toNat_natCast]
 obtain ⟨a,ha⟩:∃ a,(p.2+7) / 8=a:=⟨_,rfl⟩
 rw [ha] at hq ⊢
 have hpa:p.1<2^(8*a):=Nat.lt_of_lt_of_le hp (z1D (by omega))
 refine Prod.ext ?_ rfl
 refine z8S ?_ λi hi=>?_
 · rw [size_extract];dsimp only;omega
 rw [size_extract] at hi
 rw [zS _ _ _ _ (by omega),zdf (by omega)]
 have hl:zjT p.1 p.2 s=(p.1+num s*2^(8*a),8*a+8*s.size):=by unfold zjT;rw [ha]
 rw [hl] at h
 obtain ⟨z,hz⟩:=zhV h (m:=8*(a+i)) (by dsimp only;omega)
 dsimp only at hz
 have hb:8*(a+i)=8*a+8*i:=by omega
 rw [hz,Nat.add_mod,zdP (by omega),Nat.add_zero,Nat.mod_mod,hb,Nat.pow_add,<- Nat.div_div_eq_div_mul,z3E _ _ (Nat.le_refl _),Nat.sub_self,Nat.pow_zero,Nat.mul_one,Nat.div_eq_of_lt hpa,Nat.zero_add,zjA _ (by omega)]
theorem zkq {p:Nat×Nat} {s:ByteArray} (hp:p.1<2^p.2):Front p (laS p s):=by
 refine ⟨by unfold laS zjT;dsimp only;omega,num s*2^(8*((p.2+7) / 8)-p.2),?_⟩
 unfold laS zjT
 dsimp only
 rw [Nat.mul_assoc,<- Nat.pow_add,Nat.sub_add_cancel (by omega)]
def Says {α:Type} (m:Rd α) (p:Nat×Nat) (a:α) (p':Nat×Nat):Prop:=
 p.1<2^p.2->p'.1<2^p'.2/\Front p p'/\∀ q,Front p' q->m (text q.1 q.2) p.2=.ok (a,p'.2)
theorem Says.pure {α:Type} (a:α) (p:Nat×Nat):Says (z0i a) p a p:=λh=>⟨h,.refl p,λ_ _=>rfl⟩
theorem Says.bind {α β:Type} {m:Rd α} {f:α->Rd β} {a:α} {b:β} {p p1 p2:Nat×Nat} (h:Says m p a p1) (h2:Says (f a) p1 b p2):Says (zi m f) p b p2:=λhp=>by
 obtain ⟨l1,f1,e1⟩:=h hp
 obtain ⟨l2,f2,e2⟩:=h2 l1
 exact ⟨l2,f1.trans f2,λq hq=>by rw [z9 (e1 q (f2.trans hq))];exact e2 q hq⟩
theorem Says.ifT {α:Type} {c:Prop} [Decidable c] {a b:Rd α} {x:α} {p p':Nat×Nat} (hc:c) (h:Says a p x p'):Says (if c then a else b) p x p':=by rw [if_pos hc];exact h
theorem Says.ifF {α:Type} {c:Prop} [Decidable c] {a b:Rd α} {x:α} {p p':Nat×Nat} (hc:¬ c) (h:Says b p x p'):Says (if c then a else b) p x p':=by rw [if_neg hc];exact h
theorem Says.bits {p:Nat×Nat} {v n:Nat} (hn:n<=24) (hv:v<2^n):Says (zZ n) p v (laP p (v:Nat) (n:Nat)):=λhp=>by
 refine ⟨zjj _ _ hp,zhY _ _ _,λq hq=>?_⟩
 have h:=zi3 (v:=(v:Nat)) hn hp hq
 have e:(((v:Nat):Int) % 2^n).toNat=v:=by
  have:((2:Int)^n)=((2^n:Nat):Int):=by simp
  rw [this,<- Int.natCast_emod,Nat.mod_eq_of_lt hv,Int.toNat_natCast]
 have hq2:=hq.1
 have h2:(laP p (v:Nat) (n:Nat)).2=p.2+n:=z1Z p _ hn
 have hs:=z5X q.1 q.2
 rw [e,zef (by omega) hn] at h
 unfold zZ at h ⊢
 rw [if_neg (by omega)] at h ⊢
 dsimp only at h
 injection h with h1 h3
 rw [h1,h2]
theorem Says.bytes {p:Nat×Nat} {s:ByteArray} {n:Nat} (hn:n=s.size):Says (z34 n) p s (laS p s):=λhp=>by
 subst hn
 refine ⟨zm4 s hp,zkq hp,λq hq=>?_⟩
 have h:=zkR hp hq
 have hq2:=hq.1
 have h2:(laS p s).2=8*((p.2+7) / 8)+8*s.size:=rfl
 have hs:=z5X q.1 q.2
 rw [zc8 (by omega)] at h
 unfold z34 at h ⊢
 rw [if_neg (by omega)] at h ⊢
 dsimp only at h
 injection h with h1 h3
 rw [h1]
 rfl
theorem Says.next {L:List Int} {p:Nat×Nat} {x:Int} (hc:chk L=0) (hx:znd L x):Says (z3o L) p x (z5m L p x):=λhp=>by
 refine ⟨zoR _ _ hp,zlb _ _ _,λq hq=>?_⟩
 have h:=zoX hc hx hp hq
 unfold z3o
 rw [h]
 rfl
theorem Says.room {most:Int} {out:List UInt8} {n:Nat} {p:Nat×Nat} (h:(out.length:Int)+n<=most):Says (z4K most out n) p () p:=.ifF (by omega) (.pure _ _)
theorem Says.table {L:List Int} {p:Nat×Nat} (h:chk L=0):Says (z2r L) p () p:=.ifF (not_not_intro h) (.pure _ _)
theorem Says.all {α:Type} {m:Rd α} {a:α} {p:Nat×Nat} (h:Says m (0,0) a p) (fr:Fr m) (t:ByteArray):m (text p.1 p.2++t) 0=.ok (a,p.2):=by
 obtain ⟨_,_,e⟩:=h (by decide)
 have e:=e p (.refl p)
 have:=fr (text p.1 p.2) t 0 (by omega)
 rw [show ((0,0):Nat×Nat).2=0 from rfl] at e
 rw [e] at this
 exact this.2.2
/-! ### Lengths and distances -/
/-! ### Tokens -/
/-! ### Blocks -/
theorem zpU {a b:Nat} (h:a<256):a ||| b*256=a+b*256:=by
 have:=Nat.two_pow_add_eq_or_of_lt (i:=8) (b:=a) h b
 rw [Nat.or_comm,Nat.mul_comm b 256,show (256:Nat)=2^8 from rfl,<- this];omega
def two (a b:Nat):ByteArray:=⟨#[UInt8.ofNat a,UInt8.ofNat b]⟩
end Go.Vit
