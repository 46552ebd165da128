/- What is laid is read again: the words. -/
import Derived.Test.YtloeboiajgfigaaV6D5
import Derived.Test.YtloeboiajgfigaaVm3
set_option linter.unusedVariables false
set_option linter.unusedSimpArgs false
set_option linter.unusedSimpArgs false
set_option maxRecDepth 20000
namespace Go.Vit
open Go.Proofs
theorem lay_front (p:Nat×Nat) (v n:Int):Front p (lay p.1 p.2 v n):=by
 unfold lay
 split
 · exact .refl p
 · exact ⟨Nat.le_add_right _ _,_,rfl⟩
theorem layC_front (c:Nat):∀ (k:Nat) (p:Nat×Nat),Front p (layC p c k)
 | 0,p=>.refl p
 | k+1,p=>(lay_front p _ 1).trans (layC_front c k _)
theorem layS_front (L:List Int) (p:Nat×Nat) (x:Int):Front p (layS L p x):=by
 unfold layS
 split
 · exact layC_front _ _ _
 · exact .refl p
theorem layC_lt (c:Nat):∀ (k:Nat) {p:Nat×Nat},p.1<2^p.2->(layC p c k).1<2^(layC p c k).2
 | 0,_,h=>h
 | k+1,_,h=>layC_lt c k (lay_lt _ _ h)
theorem layS_lt (L:List Int) {p:Nat×Nat} (x:Int) (h:p.1<2^p.2):(layS L p x).1<2^(layS L p x).2:=by
 unfold layS
 split
 · exact layC_lt _ _ h
 · exact h
theorem bit_laid {p q:Nat×Nat} {v:Nat} (hp:p.1<2^p.2) (h:Front (lay p.1 p.2 (v:Int) 1) q):¬ 8*(text q.1 q.2).size<=p.2/\bitAt (text q.1 q.2) p.2=v % 2:=by
 have h1:=h.1
 rw [lay_one] at h1
 have hs:¬ 8*(text q.1 q.2).size<=p.2:=by rw [size_text];omega
 have h2:=read_bits (n:=1) (by omega) hp h
 rw [show (((1:Nat):Int))=1 from rfl,rdBits_one hs] at h2
 injection h2 with h2
 refine ⟨hs,?_⟩
 rw [h2]
 omega
theorem dec_bits {L:List Int} {q:Nat×Nat} {n i:Nat} (hc:chk L=0) (h0:0<n) (hi:i<L.length) (h:L.getD i 0=n):∀ (k:Nat) {p:Nat×Nat} (f:Nat),0<k->k<=n->k<=f->p.1<2^p.2->Front (layC p (cd L i) k) q->dec L (text q.1 q.2) f (n-k+1) (cd L i / 2^k) p.2=(((i:Nat):Int),0,p.2+k)
 | 0,_,_,hk,_,_,_,_=>by omega
 | k+1,p,0,_,_,hf,_,_=>by omega
 | k+1,p,f+1,_,hk,hf,hp,hq=>by
   have hl:Front (lay p.1 p.2 ((cd L i / 2^k:Nat):Int) 1) q:=(layC_front _ _ _).trans hq
   obtain ⟨hs,hb⟩:=bit_laid hp hl
   have hcode:2*(cd L i / 2^(k+1))+cd L i / 2^k % 2=cd L i / 2^k:=by
    rw [Nat.pow_succ,<- Nat.div_div_eq_div_mul];omega
   rw [dec,if_neg hs,hb,hcode,show n-(k+1)+1=n-k from by omega]
   have hcd:=cd_of h0 h
   rcases Nat.eq_zero_or_pos k with rfl | hk0
   · have hlt:=cN_take_lt h0 hi (Nat.le_refl _) h
     rw [List.take_length] at hlt
     obtain ⟨j,hj,hjn,hjk,hf'⟩:=fnd_code (L:=L) (n:=n) (c:=cd L i) h0 (by omega) (by omega)
     have hji:j=i:=by
      rcases Nat.lt_trichotomy j i with hlt' | rfl | hlt'
      · have:=cN_take_lt h0 hlt' (by omega) hjn;omega
      · rfl
      · have:=cN_take_lt h0 hlt' (by omega) h;omega
     rw [Nat.pow_zero,Nat.div_one,Nat.sub_zero,hf',hji]
   · have hno:fnd L (n-k) (cd L i / 2^k)=none:=by
      refine fnd_no (by omega) ?_
      rw [Nat.le_div_iff_mul_le (Nat.two_pow_pos _)]
      obtain ⟨m,rfl⟩:∃ m,k=m+1:=⟨k-1,by omega⟩
      have:=fc_up L (n-(m+1)) m
      rw [show n-(m+1)+(m+1)=n from by omega] at this
      omega
     rw [hno]
     have ih:=dec_bits hc h0 hi h k (p:=lay p.1 p.2 ((cd L i / 2^k:Nat):Int) 1) (q:=q) f hk0 (by omega) (by omega) (lay_lt _ _ hp) hq
     rw [lay_one] at ih
     show dec L (text q.1 q.2) f (n-k+1) (cd L i / 2^k) (p.2+1)=_
     rw [ih,show p.2+1+k=p.2+(k+1) from by omega]
theorem dec_lay {L:List Int} {p q:Nat×Nat} {x:Int} (hc:chk L=0) (hx:hasS L x) (hp:p.1<2^p.2) (h:Front (layS L p x) q):dec L (text q.1 q.2) (mostN L) 1 0 p.2=(x,0,(layS L p x).2):=by
 have hL:=chk_zero hc
 obtain ⟨h1,h2,h3⟩:=hx
 obtain ⟨i,rfl⟩:=int_nat h1
 rw [Int.toNat_natCast] at h3
 have hi:i<L.length:=by omega
 have hb:=hL.2 _ (List.getElem_mem hi)
 rw [<- getD_of hi] at hb
 obtain ⟨n,hn⟩:=int_nat hb.1
 have h0:0<n:=by rcases Nat.eq_zero_or_pos n with rfl | h;exact absurd hn h3;exact h
 have hS:layS L p (i:Int)=layC p (cd L i) n:=by unfold layS;rw [if_pos ⟨h1,h2,by rw [Int.toNat_natCast];exact h3⟩,Int.toNat_natCast,hn,Int.toNat_natCast]
 rw [hS] at h ⊢
 have hlt:=(code_lt hc h0 hi hn).1
 have:=dec_bits hc h0 hi hn n (mostN L) h0 (Nat.le_refl _) (len_most hc h0 hi hn) hp h
 rw [Nat.div_eq_of_lt hlt,Nat.sub_self] at this
 rw [this,layC_len]
theorem read_bytes {p q:Nat×Nat} {s:ByteArray} (hp:p.1<2^p.2) (h:Front (layB p.1 p.2 s) q):rdBytes (text q.1 q.2) p.2 (s.size:Nat)=(s,0,(layB p.1 p.2 s).2):=by
 have hq:=h.1
 unfold layB at hq ⊢
 dsimp only at hq ⊢
 have hs:=size_text q.1 q.2
 rw [rdBytes,if_neg (by omega),if_neg (by omega),Int.toNat_natCast]
 obtain ⟨a,ha⟩:∃ a,(p.2+7) / 8=a:=⟨_,rfl⟩
 rw [ha] at hq ⊢
 have hpa:p.1<2^(8*a):=Nat.lt_of_lt_of_le hp (pow_le (by omega))
 refine Prod.ext ?_ rfl
 refine bytes_ext ?_ fun i hi=>?_
 · rw [size_extract];dsimp only;omega
 rw [size_extract] at hi
 rw [byteAt_extract _ _ _ _ (by omega),byteAt_text (by omega)]
 have hl:layB p.1 p.2 s=(p.1+num s*2^(8*a),8*a+8*s.size):=by unfold layB;rw [ha]
 rw [hl] at h
 obtain ⟨z,hz⟩:=front_div h (m:=8*(a+i)) (by dsimp only;omega)
 dsimp only at hz
 have hb:8*(a+i)=8*a+8*i:=by omega
 rw [hz,Nat.add_mod,mul_pow_mod (by omega),Nat.add_zero,Nat.mod_mod,hb,Nat.pow_add,<- Nat.div_div_eq_div_mul,add_div_pow _ _ (Nat.le_refl _),Nat.sub_self,Nat.pow_zero,Nat.mul_one,Nat.div_eq_of_lt hpa,Nat.zero_add,num_byte _ (by omega)]
theorem layB_front {p:Nat×Nat} {s:ByteArray} (hp:p.1<2^p.2):Front p (laS p s):=by
 refine ⟨by unfold laS layB;dsimp only;omega,num s*2^(8*((p.2+7) / 8)-p.2),?_⟩
 unfold laS layB
 dsimp only
 rw [Nat.mul_assoc,<- Nat.pow_add,Nat.sub_add_cancel (by omega)]
def Says {α:Type} (m:Rd α) (p:Nat×Nat) (a:α) (p':Nat×Nat):Prop:=
 p.1<2^p.2->p'.1<2^p'.2/\Front p p'/\∀ q,Front p' q->m (text q.1 q.2) p.2=.ok (a,p'.2)
theorem Says.pure {α:Type} (a:α) (p:Nat×Nat):Says (rPure a) p a p:=fun h=>⟨h,.refl p,fun _ _=>rfl⟩
theorem Says.bind {α β:Type} {m:Rd α} {f:α->Rd β} {a:α} {b:β} {p p1 p2:Nat×Nat} (h:Says m p a p1) (h2:Says (f a) p1 b p2):Says (rBind m f) p b p2:=fun hp=>by
 obtain ⟨l1,f1,e1⟩:=h hp
 obtain ⟨l2,f2,e2⟩:=h2 l1
 exact ⟨l2,f1.trans f2,fun q hq=>by rw [rBind_ok (e1 q (f2.trans hq))];exact e2 q hq⟩
theorem Says.ifT {α:Type} {c:Prop} [Decidable c] {a b:Rd α} {x:α} {p p':Nat×Nat} (hc:c) (h:Says a p x p'):Says (if c then a else b) p x p':=by rw [if_pos hc];exact h
theorem Says.ifF {α:Type} {c:Prop} [Decidable c] {a b:Rd α} {x:α} {p p':Nat×Nat} (hc:¬ c) (h:Says b p x p'):Says (if c then a else b) p x p':=by rw [if_neg hc];exact h
theorem Says.bits {p:Nat×Nat} {v n:Nat} (hn:n<=24) (hv:v<2^n):Says (rBits n) p v (laP p (v:Nat) (n:Nat)):=fun hp=>by
 refine ⟨lay_lt _ _ hp,lay_front _ _ _,fun q hq=>?_⟩
 have h:=read_bits (v:=(v:Nat)) hn hp hq
 have e:(((v:Nat):Int) % 2^n).toNat=v:=by
  have:((2:Int)^n)=((2^n:Nat):Int):=by simp
  rw [this,<- Int.natCast_emod,Nat.mod_eq_of_lt hv,Int.toNat_natCast]
 have hq2:=hq.1
 have h2:(laP p (v:Nat) (n:Nat)).2=p.2+n:=laP_two p _ hn
 have hs:=size_text q.1 q.2
 rw [e,rdBits_of (by omega) hn] at h
 unfold rBits at h ⊢
 rw [if_neg (by omega)] at h ⊢
 dsimp only at h
 injection h with h1 h3
 rw [h1,h2]
theorem Says.bytes {p:Nat×Nat} {s:ByteArray} {n:Nat} (hn:n=s.size):Says (rBytes n) p s (laS p s):=fun hp=>by
 subst hn
 refine ⟨layB_lt s hp,layB_front hp,fun q hq=>?_⟩
 have h:=read_bytes hp hq
 have hq2:=hq.1
 have h2:(laS p s).2=8*((p.2+7) / 8)+8*s.size:=rfl
 have hs:=size_text q.1 q.2
 rw [rdBytes_of (by omega)] at h
 unfold rBytes at h ⊢
 rw [if_neg (by omega)] at h ⊢
 dsimp only at h
 injection h with h1 h3
 rw [h1]
 rfl
theorem Says.next {L:List Int} {p:Nat×Nat} {x:Int} (hc:chk L=0) (hx:hasS L x):Says (rNext L) p x (layS L p x):=fun hp=>by
 refine ⟨layS_lt _ _ hp,layS_front _ _ _,fun q hq=>?_⟩
 have h:=dec_lay hc hx hp hq
 unfold rNext
 rw [h]
 rfl
theorem Says.room {most:Int} {out:List UInt8} {n:Nat} {p:Nat×Nat} (h:(out.length:Int)+n<=most):Says (rRoom most out n) p () p:=.ifF (by omega) (.pure _ _)
theorem Says.table {L:List Int} {p:Nat×Nat} (h:chk L=0):Says (rTable L) p () p:=.ifF (not_not_intro h) (.pure _ _)
theorem Says.all {α:Type} {m:Rd α} {a:α} {p:Nat×Nat} (h:Says m (0,0) a p) (fr:Fr m) (t:ByteArray):m (text p.1 p.2++t) 0=.ok (a,p.2):=by
 obtain ⟨_,_,e⟩:=h (by decide)
 have e:=e p (.refl p)
 have:=fr (text p.1 p.2) t 0 (by omega)
 rw [show ((0,0):Nat×Nat).2=0 from rfl] at e
 rw [e] at this
 exact this.2.2
/-! ### Lengths and distances -/
theorem len_all:∀ n:Fin 259,3<=n.val->¬ 285<lenSym n/\(lenSym n=285->n.val=258/\lenB 285=0/\lenA 285=258)/\(lenSym n≠285->lenSym n-257<8->lenSym n-257+3=n.val/\lenB (lenSym n)=0/\n.val-lenA (lenSym n)=0) /\
 (lenSym n≠285->¬ lenSym n-257<8->lenB (lenSym n)=(lenSym n-257) / 4-1/\n.val=(4+(lenSym n-257) % 4)*2^((lenSym n-257) / 4-1)+3+(n.val-lenA (lenSym n))/\n.val-lenA (lenSym n)<2^lenB (lenSym n)/\lenB (lenSym n)<=24):=by decide +kernel
theorem dis_all:∀ n:Fin 513,1<=n.val->¬ 29<disSym n/\(disSym n<4->disSym n+1=n.val/\disB (disSym n)=0/\n.val-disS (disSym n)=0) /\
 (¬ disSym n<4->disB (disSym n)=disSym n / 2-1/\n.val=(2+disSym n % 2)*2^(disSym n / 2-1)+1+(n.val-disS (disSym n))/\n.val-disS (disSym n)<2^disB (disSym n)/\disB (disSym n)<=24):=by decide +kernel
theorem says_len {n:Nat} (h3:3<=n) (h:n<=258) (p:Nat×Nat):Says (rLen (lenSym n)) p n (laP p (n-lenA (lenSym n):Nat) (lenB (lenSym n):Nat)):=by
 obtain ⟨h1,h2,h4,h5⟩:=len_all ⟨n,by omega⟩ h3
 dsimp only at h1 h2 h4 h5
 unfold rLen
 refine .ifF h1 ?_
 by_cases e:lenSym n=285
 · obtain ⟨rfl,e2,e3⟩:=h2 e
   refine .ifT e ?_
   rw [e,e2,e3]
   have:=Says.pure 258 p
   rw [show laP p ((258-258:Nat):Nat) ((0:Nat):Int)=p from laP_zero p]
   exact this
 · refine .ifF e ?_
   by_cases e8:lenSym n-257<8
   · obtain ⟨a1,a2,a3⟩:=h4 e e8
     refine .ifT e8 ?_
     rw [a2,a3,a1,show laP p ((0:Nat):Nat) ((0:Nat):Int)=p from laP_zero p]
     exact .pure _ _
   · obtain ⟨a1,a2,a3,a4⟩:=h5 e e8
     refine .ifF e8 ?_
     rw [<- a1]
     refine .bind (.bits a4 a3) ?_
     have:n=(4+(lenSym n-257) % 4)*2^lenB (lenSym n)+3+(n-lenA (lenSym n)):=by rw [a1];exact a2
     rw [<- this]
     exact .pure _ _
theorem says_dist {n:Nat} (h3:1<=n) (h:n<=512) (p:Nat×Nat):Says (rDist (disSym n)) p n (laP p (n-disS (disSym n):Nat) (disB (disSym n):Nat)):=by
 obtain ⟨h1,h4,h5⟩:=dis_all ⟨n,by omega⟩ h3
 dsimp only at h1 h4 h5
 unfold rDist
 refine .ifF h1 ?_
 by_cases e8:disSym n<4
 · obtain ⟨a1,a2,a3⟩:=h4 e8
   refine .ifT e8 ?_
   rw [a2,a3,a1,show laP p ((0:Nat):Nat) ((0:Nat):Int)=p from laP_zero p]
   exact .pure _ _
 · obtain ⟨a1,a2,a3,a4⟩:=h5 e8
   refine .ifF e8 ?_
   rw [<- a1]
   refine .bind (.bits a4 a3) ?_
   have:n=(2+disSym n % 2)*2^disB (disSym n)+1+(n-disS (disSym n)):=by rw [a1];exact a2
   rw [<- this]
   exact .pure _ _
/-! ### Tokens -/
theorem exp_len:∀ {l:List Tok} {out:List UInt8} {s:ByteArray},exp out l=(s,0)->out.length<=s.size
 | [],out,s,h=>by
   unfold exp at h
   injection h with h
   rw [<- h]
   exact Nat.le_refl _
 | t::l,out,s,h=>by
   unfold exp at h
   split at h
   · split at h
     · have:=exp_len h
       rw [List.length_append] at this;omega
     · split at h
       · simp at h
       · have:=exp_len h
         rw [copyN_len] at this;omega
   · simp at h
def hasT (L D:List Int) (t:Tok):Prop:=if t.2.1=0 then hasS L t.1 else hasS L (lenSym t.2.1.toNat:Nat)/\hasS D (disSym t.2.2.toNat:Nat)
theorem says_syms {most:Int} {L D:List Int} (cL:chk L=0) (cD:chk D=0) (h256:hasS L 256) {s:ByteArray} (hm:(s.size:Int)<=most):∀ {l:List Tok} {out:List UInt8} {f:Nat} {p:Nat×Nat},(∀ t∈l,okT t/\hasT L D t)->exp out l=(s,0)->l.length<f->Says (rSyms most L D f out) p (bytesL s) (layS L (l.foldl (layTok L D) p) 256)
 | _,_,0,_,_,_,hf=>absurd hf (Nat.not_lt_zero _)
 | [],out,f+1,p,_,he,_=>by
   unfold exp at he
   injection he with he
   unfold rSyms
   refine .bind (.next cL h256) ?_
   refine .ifF (by decide) (.ifT rfl ?_)
   rw [<- he]
   exact .pure _ _
 | t::l,out,f+1,p,ht,he,hf=>by
   obtain ⟨hok,hh⟩:=ht t (by simp)
   obtain ⟨c,n,d⟩:=t
   have ht':∀ t∈l,okT t/\hasT L D t:=fun t h=>ht t (by simp [h])
   rw [List.foldl_cons]
   rw [List.length_cons] at hf
   unfold rSyms
   unfold hasT at hh
   unfold layTok
   unfold exp at he
   dsimp only at hh he ⊢
   split at he
   · rename_i hr
     by_cases h0:n=0
     · rw [if_pos h0] at hh he ⊢
       have hb:0<=c/\c<=255:=by
        rcases hok with h | h
        · exact h.2
        · have:=h.1;dsimp only at this;omega
       refine .bind (.next cL hh) (.ifT (by omega) ?_)
       have:=exp_len he
       rw [List.length_append,List.length_singleton] at this
       exact .bind (.room (by omega)) (says_syms cL cD h256 hm ht' he (by omega))
     · rw [if_neg h0] at hh he ⊢
       have hb:3<=n/\n<=258/\1<=d/\d<=512:=by
        rcases hok with h | h
        · exact absurd h.1 h0
        · exact h
       obtain ⟨n,rfl⟩:∃ m:Nat,n=m:=⟨n.toNat,by omega⟩
       obtain ⟨d,rfl⟩:∃ m:Nat,d=m:=⟨d.toNat,by omega⟩
       rw [Int.toNat_natCast,Int.toNat_natCast] at hh he ⊢
       have hs:=lenSym_le ⟨n,by omega⟩ (show 3<=n by omega)
       dsimp only at hs
       split at he
       · simp at he
       · rename_i hd
         have:=exp_len he
         rw [copyN_len] at this
         refine .bind (.next cL hh.1) (.ifF (by omega) (.ifF (by omega) (.bind ?_ (says_syms cL cD h256 hm ht' he (by omega)))))
         unfold rMatch
         rw [Int.toNat_natCast]
         refine .bind (says_len (by omega) (by omega) _) (.bind (.next cD hh.2) ?_)
         rw [Int.toNat_natCast]
         refine .bind (says_dist (by omega) (by omega) _) (.ifF (by omega) (.bind (.room (by omega)) (.pure _ _)))
   · simp at he
theorem says_codes {most:Int} {F:Nat} {L D:List Int} (cL:chk L=0) (cD:chk D=0) (h256:hasS L 256) {s:ByteArray} (hm:(s.size:Int)<=most) {l:List Tok} {p:Nat×Nat} (ht:∀ t∈l,okT t/\hasT L D t) (he:exp [] l=(s,0)) (hf:l.length<F):Says (rCodes most F L D []) p (bytesL s) (layToks L D p l):=
 .bind (.table cL) (.bind (.table cD) (says_syms cL cD h256 hm ht he hf))
/-! ### Blocks -/
theorem says_infl {most:Int} {F k:Nat} {p:Nat×Nat} {x:List UInt8} (hk:k<4) (h:Says (rBlock most F (k:Nat) []) (laP (laP (0,0) ((1:Nat):Int) ((1:Nat):Int)) (k:Nat) ((2:Nat):Int)) x p) (hF:0<F):Says (rInfl most F) (0,0) x p:=by
 unfold rInfl
 obtain ⟨f,rfl⟩:∃ f,F=f+1:=⟨F-1,by omega⟩
 show Says (rBlocks most (f+1) (f+1) []) (0,0) x p
 rw [rBlocks]
 refine .bind (a:=[((1:Nat):Int),((k:Nat):Int)]) (p1:=laP (laP (0,0) ((1:Nat):Int) ((1:Nat):Int)) (k:Nat) ((2:Nat):Int)) ?_ (.bind h (.ifT rfl (.pure _ _)))
 exact .bind (.bits (by decide) (by decide)) (.bind (.bits (by decide) (by omega)) (.pure _ _))
theorem fixL_has:∀ x:Fin 288,hasS fixL (x.val:Nat):=by decide +kernel
theorem fixD_has:∀ x:Fin 32,hasS fixD (x.val:Nat):=by decide +kernel
theorem fix_hasT {t:Tok} (h:okT t):hasT fixL fixD t:=by
 unfold hasT
 split
 · rename_i h0
   have hb:0<=t.1/\t.1<=255:=by
    rcases h with h | h
    · exact h.2
    · omega
   have:=fixL_has ⟨t.1.toNat,by omega⟩
   dsimp only at this
   rwa [Int.toNat_of_nonneg hb.1] at this
 · rename_i h0
   have hb:3<=t.2.1/\t.2.1<=258/\1<=t.2.2/\t.2.2<=512:=by
    rcases h with h | h
    · exact absurd h.1 h0
    · exact h
   have hs:=lenSym_le ⟨t.2.1.toNat,by omega⟩ (show 3<=t.2.1.toNat by omega)
   have hd:=disSym_le ⟨t.2.2.toNat,by omega⟩ (show 1<=t.2.2.toNat by omega)
   dsimp only at hs hd
   exact ⟨fixL_has ⟨lenSym t.2.1.toNat,by omega⟩,fixD_has ⟨disSym t.2.2.toNat,by omega⟩⟩
theorem says_fixed {most:Int} {F:Nat} {s:ByteArray} (hm:(s.size:Int)<=most) {l:List Tok} (ht:∀ t∈l,okT t) (he:exp [] l=(s,0)) (hf:l.length<F):Says (rInfl most F) (0,0) (bytesL s) (fixedP l):=by
 refine says_infl (k:=1) (by decide) ?_ (by omega)
 unfold rBlock
 refine .ifF (by decide) (.ifT rfl ?_)
 rw [show laP (laP (0,0) ((1:Nat):Int) ((1:Nat):Int)) ((1:Nat):Int) ((2:Nat):Int)=laP (0,0) 3 3 from fix_head]
 exact says_codes fixL_chk fixD_chk (fixL_has ⟨256,by decide⟩) hm (fun t h=>⟨ht t h,fix_hasT (ht t h)⟩) he hf
theorem xor_all {n:Nat} (h:n<=65535):n ^^^ (65535-n)=65535:=by
 apply Nat.eq_of_testBit_eq
 intro i
 rw [Nat.testBit_xor,show 65535-n=2^16-(n+1) from by omega,Nat.testBit_two_pow_sub_succ (by omega),show 65535=2^16-1 from rfl,Nat.testBit_two_pow_sub_one]
 by_cases hi:i<16
 · simp [hi]
 · have:n.testBit i=false:=Nat.testBit_lt_two_pow (Nat.lt_of_lt_of_le (show n<2^16 by omega) (Nat.pow_le_pow_right (by decide) (by omega)))
   simp [hi,this]
theorem two_or {a b:Nat} (h:a<256):a ||| b*256=a+b*256:=by
 have:=Nat.two_pow_add_eq_or_of_lt (i:=8) (b:=a) h b
 rw [Nat.or_comm,Nat.mul_comm b 256,show (256:Nat)=2^8 from rfl,<- this];omega
def two (a b:Nat):ByteArray:=⟨#[UInt8.ofNat a,UInt8.ofNat b]⟩
theorem says_pair {p:Nat×Nat} {a b n:Nat} (ha:a<256) (hb:b<256) (hn:a+b*256=n):Says rPair p n (laS p (two a b)):=by
 refine .bind (.bytes (s:=two a b) rfl) ?_
 have h0:byteAt (two a b) 0=a:=by
  show (UInt8.ofNat a).toNat=a
  rw [UInt8.toNat_ofNat'];omega
 have h1:byteAt (two a b) 1=b:=by
  show (UInt8.ofNat b).toNat=b
  rw [UInt8.toNat_ofNat'];omega
 rw [h0,h1,two_or ha,hn]
 exact .pure _ _
theorem says_stored {most:Int} {F:Nat} {s:ByteArray} (hm:(s.size:Int)<=most) (hs:s.size<=65535) (hF:0<F):Says (rInfl most F) (0,0) (bytesL s) (stored s):=by
 refine says_infl (k:=0) (by decide) ?_ hF
 unfold rBlock
 refine .ifT rfl ?_
 unfold stored storedF
 rw [if_pos hs]
 unfold stB
 have hl:lastB s.size s=1:=if_pos rfl
 have he:s.extract 0 s.size=s:=by
  refine bytes_ext ?_ fun i hi=>?_
  · rw [size_extract];omega
  · rw [size_extract] at hi
    rw [byteAt_extract _ _ _ _ (by omega),Nat.zero_add]
 have hh:hdB s.size=two (s.size % 256) (s.size / 256)++two (255-s.size % 256) (255-s.size / 256):=by
  unfold hdB hd two
  rw [Nat.mod_eq_of_lt (show s.size / 256<256 by omega)]
  rfl
 rw [hl,he,hh,<- laS_laS,<- lay_head (p:=(0,0)) (v:=1) (by decide)]
 unfold rStored
 refine .bind (says_pair (a:=s.size % 256) (b:=s.size / 256) (n:=s.size) (by omega) (by omega) (by omega)) (.bind (says_pair (a:=255-s.size % 256) (b:=255-s.size / 256) (n:=65535-s.size) (by omega) (by omega) (by omega)) ?_)
 refine .ifF (not_not_intro (xor_all hs)) (.bind (.bytes rfl) (.bind (.room (by simp only [List.length_nil];omega)) ?_))
 rw [List.nil_append]
 exact .pure _ _
end Go.Vit
