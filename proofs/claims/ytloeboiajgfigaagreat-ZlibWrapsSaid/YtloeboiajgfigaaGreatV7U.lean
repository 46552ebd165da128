/- What a deflated stream says (as in the third seat) -/
import Derived.Test.YtloeboiajgfigaaGreatV7Q
import Derived.Test.YtloeboiajgfigaaGreatV7Gi
import Derived.Test.YtloeboiajgfigaaGreatVm3
set_option linter.unusedVariables false
set_option linter.unusedSimpArgs false
set_option maxRecDepth 20000
namespace Go.Vit
open Go.Proofs
section
def z6A (s:ByteArray) (at':Nat) (n:Int):ByteArray×Int×Nat:=
 if n<0 then (ByteArray.empty,1,at') else if ((s.size-(at'+7) / 8:Nat):Int)<n then (ByteArray.empty,3,8*((at'+7) / 8)) else (s.extract ((at'+7) / 8) ((at'+7) / 8+n.toNat),0,8*((at'+7) / 8)+8*n.toNat)
theorem zco {s:ByteArray} {at' r:Nat} {n:Int} {σ:Mem} (hs:s.size<=2^50) (h:σ.get r=some (rdP s at')) (ha:at'<=8*s.size) :
 z1 PG z17 [.ptr r 0,.int .i64 n] σ λv σ'=>v=.tup [.str (z6A s at' n).1,.int .i64 (z6A s at' n).2.1]/\σ'.get r=some (rdP s (z6A s at' n).2.2)/\Mem.Only [r] σ σ':=by
 refine z9u λlive=>?_
 unfold z5m
 have hr:=live.lt h
 repeat (refine To.go ?_)
 refine ifD (λh0=>?_) (λh0=>?_)
 · rw [z6A,if_pos h0]
   exact ⟨rfl,h,by repeat (with_reducible first | exact Mem.Only.refl _ _ | refine Mem.Only.bump ?_ _)⟩
 have hz:=size_extract s ((at'+7) / 8) s.size
 unfold rdP rdB at h
 repeat (first | refine To.go ?_ | ((with_reducible apply ldrw);(· ((simp (disch:=omega) only [go_sem, *];try rfl)));(· (rfl))) | ((with_reducible apply st1);(· ((simp (disch:=omega) only [go_sem, *];try rfl)));(· simp);(· rfl)))
 refine ifD (λh2=>?_) (λh2=>?_)
 · rw [z6A,if_neg h0,if_pos (by omega),zhe]
   exact ⟨rfl,by rw [gB gS'];rfl,by repeat (with_reducible first | exact Mem.Only.refl _ _ | refine Mem.Only.bump ?_ _ | refine Mem.Only.put ?_ (by simp) _)⟩
 obtain ⟨n,rfl⟩:=z2w (by omega:0<=n)
 repeat (first | refine To.go ?_ | with_reducible refine And.intro (by omega) ?_ | ((with_reducible apply ldrw);(· ((simp (disch:=omega) only [go_sem, *];try rfl)));(· (rfl))) | ((with_reducible apply st1);(· ((simp (disch:=omega) only [go_sem, *];try rfl)));(· simp);(· rfl)))
 rw [z6A,if_neg h0,if_neg (by omega)]
 simp only [Int.toNat_natCast,Int.reduceToNat,Nat.mul_one,Nat.zero_add,Nat.add_zero]
 rw [show 8*((at'+7) / 8)+8*n=8*((at'+7) / 8+n) from by omega,zhe]
 refine ⟨?_,?_,by repeat (with_reducible first | exact Mem.Only.refl _ _ | refine Mem.Only.bump ?_ _ | refine Mem.Only.put ?_ (by simp) _)⟩
 · rw [z5s s (by omega)];rfl
 · rw [gB gS',hz,z5s s (by omega),show (at'+7) / 8+(min s.size s.size-(at'+7) / 8)=s.size from by omega];rfl
end
section
abbrev Rd (α:Type):=ByteArray->Nat->Except Int (α×Nat)
section
variable {α β:Type}
def z3q (a:α):Rd α:=λ_ p=>.ok (a,p)
def z7I (e:Int):Rd α:=λ_ _=>.error e
def z0X (m:Rd α) (f:α->Rd β):Rd β:=λs p=>match m s p with
 | .ok (a,q)=>f a s q
 | .error e=>.error e
theorem zi {m:Rd α} {f:α->Rd β} {s:ByteArray} {p q:Nat} {a:α} (h:m s p=.ok (a,q)):z0X m f s p=f a s q:=by unfold z0X;rw [h]
theorem zr {m:Rd α} {f:α->Rd β} {s:ByteArray} {p:Nat} {e:Int} (h:m s p=.error e):z0X m f s p=.error e:=by unfold z0X;rw [h]
end
def z3h (n:Nat):Rd Nat:=λs p=>if 8*s.size<p+n then .error 3 else .ok (val s p n,p+n)
def z4R (n:Nat):Rd ByteArray:=λs p=>if s.size<(p+7) / 8+n then .error 3 else .ok (s.extract ((p+7) / 8) ((p+7) / 8+n),8*((p+7) / 8)+8*n)
def z8f (L:List Int):Rd Int:=λs p=>if (dec L s (z5X L) 1 0 p).2.1=0 then .ok ((dec L s (z5X L) 1 0 p).1,(dec L s (z5X L) 1 0 p).2.2) else .error (dec L s (z5X L) 1 0 p).2.1
theorem zi7 {s:ByteArray} {p n:Nat} (hp:p<=8*s.size) (hn:n<=24):z5r s p n=match z3h n s p with
 | .ok (v,q)=>(v,0,q)
 | .error e=>(0,e,p):=by
 unfold z5r z3h
 rw [if_neg (by omega),Int.toNat_natCast]
 by_cases h:8*s.size<p+n
 · rw [if_pos h,if_pos (by omega)]
 · rw [if_neg h,if_neg (by omega)]
theorem zg4 {s:ByteArray} {p n:Nat} (hp:p<=8*s.size):z6A s p n=match z4R n s p with
 | .ok (v,q)=>(v,0,q)
 | .error e=>(ByteArray.empty,e,8*((p+7) / 8)):=by
 unfold z6A z4R
 rw [if_neg (by omega),Int.toNat_natCast]
 by_cases h:s.size<(p+7) / 8+n
 · rw [if_pos h,if_pos (by omega)]
 · rw [if_neg h,if_neg (by omega)]
/-! ### The stream -/
def zkc:Rd Nat:=z0X (z4R 2) λb=>z3q (zz b 0 ||| zz b 1*256)
def z9r (most:Int) (out:List UInt8) (n:Nat):Rd Unit:=if most-out.length<n then z7I 5 else z3q ()
def zar (most:Int) (out:List UInt8):Rd (List UInt8):=
 z0X zkc λn=>z0X zkc λm=>if n ^^^ m≠65535 then z7I 14 else z0X (z4R n) λb=>z0X (z9r most out n) λ_=>z3q (out++zG b)
def zjd:List Nat->List Int->Rd (List Int)
 | [],acc=>z3q acc
 | w::ws,acc=>z0X (z3h w) λv=>zjd ws (acc++[(v:Int)])
def ordr:List Int:=[16,17,18,0,8,7,9,6,10,5,11,4,12,3,13,2,14,1,15]
def zb9:List Int->List Int->Rd (List Int)
 | [],acc=>z3q acc
 | i::is,acc=>z0X (z3h 3) λv=>zb9 is (acc.set i.toNat (v:Int))
def z7M (L:List Int):Rd Unit:=if chk L≠0 then z7I (chk L) else z3q ()
def zqY (L l:List Int):Rd (Int×Nat):=z0X (z8f L) λc=>
 if c<16 then z3q (c,1) else if c=16/\l.length=0 then z7I 12 else
  z0X (z3h (if c=16 then 2 else if c=17 then 3 else 7)) λv=>z3q (if c=16 then l.getD (l.length-1) 0 else 0,v+if c=18 then 11 else 3)
def ziy (L:List Int) (all:Nat):Nat->List Int->Rd (List Int)
 | 0,_=>z7I 99
 | f+1,l=>if l.length<all then z0X (zqY L l) λx=>if all<l.length+x.2 then z7I 12 else ziy L all f (l++List.replicate x.2 x.1) else z3q l
def zpM (a b c:Nat):Rd (List Int×List Int):=z0X (zb9 (ordr.take (c+4)) (List.replicate 19 0)) λsm=>z0X (z7M sm) λ_=>
 z0X (ziy sm (a+257+b+1) (a+257+b+2) []) λl=>z3q (l.take (a+257),l.drop (a+257))
def zqP:Rd (List Int×List Int):=z0X (zjd [5,5,4] []) λh=>zpM (h.getD 0 0).toNat (h.getD 1 0).toNat (h.getD 2 0).toNat
def zpz (c:Nat):Rd Nat:=if 285<c then z7I 12 else if c=285 then z3q 258 else if c-257<8 then z3q (c-257+3) else z0X (z3h ((c-257) / 4-1)) λv=>z3q ((4+(c-257) % 4)*2^((c-257) / 4-1)+3+v)
def zkp (c:Nat):Rd Nat:=if 29<c then z7I 12 else if c<4 then z3q (c+1) else z0X (z3h (c / 2-1)) λv=>z3q ((2+c % 2)*2^(c / 2-1)+1+v)
def zcw (most:Int) (D:List Int) (c:Nat) (out:List UInt8):Rd (List UInt8):=z0X (zpz c) λn=>z0X (z8f D) λf=>z0X (zkp f.toNat) λd=>if out.length<d then z7I 15 else z0X (z9r most out n) λ_=>z3q (zax out d n)
def zff (most:Int) (L D:List Int):Nat->List UInt8->Rd (List UInt8)
 | 0,_=>z7I 99
 | f+1,out=>z0X (z8f L) λc=>if c<256 then z0X (z9r most out 1) λ_=>zff most L D f (out++[UInt8.ofNat c.toNat]) else if c=256 then z3q out else z0X (zcw most D c.toNat out) λout=>zff most L D f out
def zjq:List Int:=arr (λi=>if 280<=i\/i<144 then 8 else if i<256 then 9 else 7) 288
def zl7:List Int:=arr (λ_=>5) 32
def zcH (most:Int) (F:Nat) (L D:List Int) (out:List UInt8):Rd (List UInt8):=z0X (z7M L) λ_=>z0X (z7M D) λ_=>zff most L D F out
def zeT (most:Int) (F:Nat) (kind:Int) (out:List UInt8):Rd (List UInt8):=
 if kind=0 then zar most out else if kind=1 then zcH most F zjq zl7 out else if kind=2 then z0X zqP λx=>zcH most F x.1 x.2 out else z7I 13
def z8Y (most:Int) (F:Nat):Nat->List UInt8->Rd (List UInt8)
 | 0,_=>z7I 99
 | f+1,out=>z0X (zjd [1,2] []) λh=>z0X (zeT most F (h.getD 1 0) out) λout=>if h.getD 0 0=1 then z3q out else z8Y most F f out
def zex (most:Int) (F:Nat):Rd (List UInt8):=z8Y most F F []
/-! ### What stands behind makes no difference -/
def Fr {α:Type} (m:Rd α):Prop:=∀ s t p,p<=8*s.size->match m s p with
 | .ok (a,q)=>p<=q/\q<=8*s.size/\m (s++t) p=.ok (a,q)
 | .error e=>e≠0/\(e=3\/m (s++t) p=.error e)
section
variable {α β:Type}
theorem Fr.pure (a:α):Fr (z3q a):=λ_ _ p h=>⟨Nat.le_refl _,h,rfl⟩
theorem Fr.fail {e:Int} (h:e≠0):Fr (z7I e:Rd α):=λ_ _ p _=>⟨h,.inr rfl⟩
theorem Fr.bind {m:Rd α} {f:α->Rd β} (hm:Fr m) (hf:∀ a,Fr (f a)):Fr (z0X m f):=by
 intro s t p hp
 have h1:=hm s t p hp
 cases e:m s p with
 | error x=>
   rw [e] at h1
   rw [zr e]
   refine ⟨h1.1,h1.2.imp id λh=>zr h⟩
 | ok x=>
   obtain ⟨a,q⟩:=x
   rw [e] at h1
   obtain ⟨h1,h2,h3⟩:=h1
   rw [zi e,zi h3]
   have h4:=hf a s t q h2
   cases e2:f a s q with
   | error x=>rw [e2] at h4;exact h4
   | ok x=>
     obtain ⟨b,r⟩:=x
     rw [e2] at h4
     exact ⟨Nat.le_trans h1 h4.1,h4.2.1,h4.2.2⟩
theorem Fr.ite {c:Prop} [Decidable c] {a b:Rd α} (ha:c->Fr a) (hb:¬ c->Fr b):Fr (if c then a else b):=by
 by_cases h:c
 · rw [if_pos h];exact ha h
 · rw [if_neg h];exact hb h
end
theorem size_append (s t:ByteArray):(s++t).size=s.size+t.size:=ByteArray.size_append
theorem zaW {s:ByteArray} (t:ByteArray) {i:Nat} (h:i<s.size):zz (s++t) i=zz s i:=by
 unfold zz
 rw [z7l,List.getElem?_append_left (by rw [zM];exact h)]
theorem zd7 {s:ByteArray} (t:ByteArray) {i:Nat} (h:i<8*s.size):z4E (s++t) i=z4E s i:=by
 unfold z4E
 rw [zaW t (by omega)]
theorem zgi {s:ByteArray} (t:ByteArray) {p:Nat}:∀ {n:Nat},p+n<=8*s.size->val (s++t) p n=val s p n
 | 0,_=>rfl
 | n+1,h=>by rw [val,val,zgi t (by omega),zd7 (s:=s) t (by omega)]
theorem Fr.bits (n:Nat):Fr (z3h n):=by
 intro s t p hp
 unfold z3h
 by_cases h:8*s.size<p+n
 · rw [if_pos h];exact ⟨by decide,.inl rfl⟩
 · rw [if_neg h,if_neg (by rw [size_append];omega),zgi t (by omega)]
   exact ⟨by omega,by omega,rfl⟩
theorem Fr.bytes (n:Nat):Fr (z4R n):=by
 intro s t p hp
 unfold z4R
 by_cases h:s.size<(p+7) / 8+n
 · rw [if_pos h];exact ⟨by decide,.inl rfl⟩
 · rw [if_neg h,if_neg (by rw [size_append];omega)]
   refine ⟨by omega,by omega,?_⟩
   congr 2
   refine zbB (by rw [size_extract,size_extract,size_append];omega) λi hi=>?_
   rw [size_extract,size_append] at hi
   rw [zR _ _ _ _ (by omega),zR _ _ _ _ (by omega),zaW (s:=s) t (by omega)]
theorem zpH {L:List Int} {s t:ByteArray}:∀ (k n c p:Nat),p<=8*s.size->(dec L s k n c p).2.1=3\/dec L (s++t) k n c p=dec L s k n c p/\p<=(dec L s k n c p).2.2
 | 0,_,_,_,_=>.inr ⟨rfl,Nat.le_refl _⟩
 | k+1,n,c,p,hp=>by
   unfold dec
   by_cases h:8*s.size<=p
   · rw [if_pos h];exact .inl rfl
   · rw [if_neg h,if_neg (by rw [size_append];omega),zd7 (s:=s) t (by omega)]
     cases fnd L n (2*c+z4E s p) with
     | some i=>exact .inr ⟨rfl,Nat.le_succ _⟩
     | none=>
       rcases zpH (L:=L) (s:=s) (t:=t) k (n+1) (2*c+z4E s p) (p+1) (by omega) with h' | h'
       · exact .inl h'
       · exact .inr ⟨h'.1,by have:=h'.2;dsimp only;omega⟩
theorem Fr.next (L:List Int):Fr (z8f L):=by
 intro s t p hp
 unfold z8f
 have hle:=zlt (L:=L) (s:=s) (z5X L) 1 0 hp
 have h:=zpH (L:=L) (s:=s) (t:=t) (z5X L) 1 0 p hp
 obtain ⟨D,hD⟩:∃ D,dec L s (z5X L) 1 0 p=D:=⟨_,rfl⟩
 rw [hD] at h hle ⊢
 by_cases h0:D.2.1=0
 · rw [if_pos h0]
   rcases h with h | ⟨h,h'⟩
   · omega
   · rw [h,if_pos h0];exact ⟨h',hle,rfl⟩
 · rw [if_neg h0]
   refine ⟨h0,?_⟩
   rcases h with h | ⟨h,h'⟩
   · exact .inl h
   · rw [h,if_neg h0];exact .inr rfl
theorem Fr.pair:Fr zkc:=.bind (.bytes 2) λ_=>.pure _
theorem Fr.room (most:Int) (out:List UInt8) (n:Nat):Fr (z9r most out n):=.ite (λ_=>.fail (by decide)) λ_=>.pure _
theorem Fr.stored (most:Int) (out:List UInt8):Fr (zar most out):=.bind .pair λ_=>.bind .pair λ_=>.ite (λ_=>.fail (by decide)) λ_=>.bind (.bytes _) λ_=>.bind (.room _ _ _) λ_=>.pure _
theorem Fr.sev:∀ (ws:List Nat) (acc:List Int),Fr (zjd ws acc)
 | [],_=>.pure _
 | _::ws,_=>.bind (.bits _) λ_=>Fr.sev ws _
theorem Fr.small:∀ (is:List Int) (acc:List Int),Fr (zb9 is acc)
 | [],_=>.pure _
 | _::is,_=>.bind (.bits _) λ_=>Fr.small is _
theorem Fr.table (L:List Int):Fr (z7M L):=by
 unfold z7M
 by_cases h:chk L≠0
 · rw [if_pos h];exact .fail h
 · rw [if_neg h];exact .pure _
theorem Fr.run (L l:List Int):Fr (zqY L l):=.bind (.next L) λ_=>.ite (λ_=>.pure _) λ_=>.ite (λ_=>.fail (by decide)) λ_=>.bind (.bits _) λ_=>.pure _
theorem Fr.lens (L:List Int) (all:Nat):∀ (f:Nat) (l:List Int),Fr (ziy L all f l)
 | 0,_=>.fail (by decide)
 | f+1,l=>.ite (λ_=>.bind (.run L l) λ_=>.ite (λ_=>.fail (by decide)) λ_=>Fr.lens L all f _) λ_=>.pure _
theorem Fr.dynT (a b c:Nat):Fr (zpM a b c):=.bind (.small _ _) λ_=>.bind (.table _) λ_=>.bind (.lens _ _ _ _) λ_=>.pure _
theorem Fr.dyn:Fr zqP:=.bind (.sev _ _) λ_=>.dynT _ _ _
theorem Fr.len (c:Nat):Fr (zpz c):=.ite (λ_=>.fail (by decide)) λ_=>.ite (λ_=>.pure _) λ_=>.ite (λ_=>.pure _) λ_=>.bind (.bits _) λ_=>.pure _
theorem Fr.dist (c:Nat):Fr (zkp c):=.ite (λ_=>.fail (by decide)) λ_=>.ite (λ_=>.pure _) λ_=>.bind (.bits _) λ_=>.pure _
theorem Fr.mtch (most:Int) (D:List Int) (c:Nat) (out:List UInt8):Fr (zcw most D c out):=.bind (.len c) λ_=>.bind (.next D) λ_=>.bind (.dist _) λ_=>.ite (λ_=>.fail (by decide)) λ_=>.bind (.room _ _ _) λ_=>.pure _
theorem Fr.syms (most:Int) (L D:List Int):∀ (f:Nat) (out:List UInt8),Fr (zff most L D f out)
 | 0,_=>.fail (by decide)
 | f+1,out=>.bind (.next L) λ_=>.ite (λ_=>.bind (.room _ _ _) λ_=>Fr.syms most L D f _) λ_=>.ite (λ_=>.pure _) λ_=>.bind (.mtch _ _ _ _) λ_=>Fr.syms most L D f _
theorem Fr.codes (most:Int) (F:Nat) (L D:List Int) (out:List UInt8):Fr (zcH most F L D out):=.bind (.table L) λ_=>.bind (.table D) λ_=>.syms _ _ _ _ _
theorem Fr.block (most:Int) (F:Nat) (kind:Int) (out:List UInt8):Fr (zeT most F kind out):=.ite (λ_=>.stored _ _) λ_=>.ite (λ_=>.codes _ _ _ _ _) λ_=>.ite (λ_=>.bind .dyn λ_=>.codes _ _ _ _ _) λ_=>.fail (by decide)
theorem Fr.blocks (most:Int) (F:Nat):∀ (f:Nat) (out:List UInt8),Fr (z8Y most F f out)
 | 0,_=>.fail (by decide)
 | f+1,out=>.bind (.sev _ _) λ_=>.bind (.block _ _ _ _) λ_=>.ite (λ_=>.pure _) λ_=>Fr.blocks most F f _
theorem Fr.infl (most:Int) (F:Nat):Fr (zex most F):=.blocks _ _ _ _
end
end Go.Vit
