/- What a deflated stream says (as in the third seat) -/
import Derived.Test.YtloeboiajgfigaaGreatV7Q
import Derived.Test.YtloeboiajgfigaaGreatV7Gi
import Derived.Test.YtloeboiajgfigaaGreatVm3
set_option linter.unusedVariables false
set_option linter.unusedSimpArgs false
set_option maxRecDepth 20000
namespace Go.Vit
open Go.Proofs
section
def z3i (s:ByteArray) (at':Nat) (n:Int):ByteArray×Int×Nat:=
 if n<0 then (ByteArray.empty,1,at') else if ((s.size-(at'+7) / 8:Nat):Int)<n then (ByteArray.empty,3,8*((at'+7) / 8)) else (s.extract ((at'+7) / 8) ((at'+7) / 8+n.toNat),0,8*((at'+7) / 8)+8*n.toNat)
theorem zbK {s:ByteArray} {at' r:Nat} {n:Int} {σ:Mem} (hs:s.size<=2^50) (h:σ.get r=some (rdP s at')) (ha:at'<=8*s.size) :
 z1 PG z14 [.ptr r 0,.int .i64 n] σ λv σ'=>v=.tup [.str (z3i s at' n).1,.int .i64 (z3i s at' n).2.1]/\σ'.get r=some (rdP s (z3i s at' n).2.2)/\Mem.Only [r] σ σ':=by
 refine z9q λlive=>?_
 unfold z66
 have hr:=live.lt h
 repeat (refine To.go ?_)
 refine ifD (λh0=>?_) (λh0=>?_)
 · rw [z3i,if_pos h0]
   exact ⟨rfl,h,by repeat (with_reducible first | exact Mem.Only.refl _ _ | refine Mem.Only.bump ?_ _)⟩
 have hz:=size_extract s ((at'+7) / 8) s.size
 unfold rdP rdB at h
 repeat (first | refine To.go ?_ | ((with_reducible apply ldrw);(· ((simp (disch:=omega) only [go_sem, *];try rfl)));(· (rfl))) | ((with_reducible apply st1);(· ((simp (disch:=omega) only [go_sem, *];try rfl)));(· simp);(· rfl)))
 refine ifD (λh2=>?_) (λh2=>?_)
 · rw [z3i,if_neg h0,if_pos (by omega),zfv]
   exact ⟨rfl,by rw [gB gS'];rfl,by repeat (with_reducible first | exact Mem.Only.refl _ _ | refine Mem.Only.bump ?_ _ | refine Mem.Only.put ?_ (by simp) _)⟩
 obtain ⟨n,rfl⟩:=z20 (by omega:0<=n)
 repeat (first | refine To.go ?_ | with_reducible refine And.intro (by omega) ?_ | ((with_reducible apply ldrw);(· ((simp (disch:=omega) only [go_sem, *];try rfl)));(· (rfl))) | ((with_reducible apply st1);(· ((simp (disch:=omega) only [go_sem, *];try rfl)));(· simp);(· rfl)))
 rw [z3i,if_neg h0,if_neg (by omega)]
 simp only [Int.toNat_natCast,Int.reduceToNat,Nat.mul_one,Nat.zero_add,Nat.add_zero]
 rw [show 8*((at'+7) / 8)+8*n=8*((at'+7) / 8+n) from by omega,zfv]
 refine ⟨?_,?_,by repeat (with_reducible first | exact Mem.Only.refl _ _ | refine Mem.Only.bump ?_ _ | refine Mem.Only.put ?_ (by simp) _)⟩
 · rw [z5L s (by omega)];rfl
 · rw [gB gS',hz,z5L s (by omega),show (at'+7) / 8+(min s.size s.size-(at'+7) / 8)=s.size from by omega];rfl
end
section
abbrev Rd (α:Type):=ByteArray->Nat->Except Int (α×Nat)
section
variable {α β:Type}
def z0i (a:α):Rd α:=λ_ p=>.ok (a,p)
def z5a (e:Int):Rd α:=λ_ _=>.error e
def zi (m:Rd α) (f:α->Rd β):Rd β:=λs p=>match m s p with
 | .ok (a,q)=>f a s q
 | .error e=>.error e
theorem z9 {m:Rd α} {f:α->Rd β} {s:ByteArray} {p q:Nat} {a:α} (h:m s p=.ok (a,q)):zi m f s p=f a s q:=by unfold zi;rw [h]
theorem za {m:Rd α} {f:α->Rd β} {s:ByteArray} {p:Nat} {e:Int} (h:m s p=.error e):zi m f s p=.error e:=by unfold zi;rw [h]
end
def zZ (n:Nat):Rd Nat:=λs p=>if 8*s.size<p+n then .error 3 else .ok (val s p n,p+n)
def z34 (n:Nat):Rd ByteArray:=λs p=>if s.size<(p+7) / 8+n then .error 3 else .ok (s.extract ((p+7) / 8) ((p+7) / 8+n),8*((p+7) / 8)+8*n)
def z3o (L:List Int):Rd Int:=λs p=>if (dec L s (z1T L) 1 0 p).2.1=0 then .ok ((dec L s (z1T L) 1 0 p).1,(dec L s (z1T L) 1 0 p).2.2) else .error (dec L s (z1T L) 1 0 p).2.1
theorem zef {s:ByteArray} {p n:Nat} (hp:p<=8*s.size) (hn:n<=24):z36 s p n=match zZ n s p with
 | .ok (v,q)=>(v,0,q)
 | .error e=>(0,e,p):=by
 unfold z36 zZ
 rw [if_neg (by omega),Int.toNat_natCast]
 by_cases h:8*s.size<p+n
 · rw [if_pos h,if_pos (by omega)]
 · rw [if_neg h,if_neg (by omega)]
theorem zc8 {s:ByteArray} {p n:Nat} (hp:p<=8*s.size):z3i s p n=match z34 n s p with
 | .ok (v,q)=>(v,0,q)
 | .error e=>(ByteArray.empty,e,8*((p+7) / 8)):=by
 unfold z3i z34
 rw [if_neg (by omega),Int.toNat_natCast]
 by_cases h:s.size<(p+7) / 8+n
 · rw [if_pos h,if_pos (by omega)]
 · rw [if_neg h,if_neg (by omega)]
/-! ### The stream -/
def zh7:Rd Nat:=zi (z34 2) λb=>z0i (ze b 0 ||| ze b 1*256)
def z4K (most:Int) (out:List UInt8) (n:Nat):Rd Unit:=if most-out.length<n then z5a 5 else z0i ()
def z6L (most:Int) (out:List UInt8):Rd (List UInt8):=
 zi zh7 λn=>zi zh7 λm=>if n ^^^ m≠65535 then z5a 14 else zi (z34 n) λb=>zi (z4K most out n) λ_=>z0i (out++zI b)
def zgG:List Nat->List Int->Rd (List Int)
 | [],acc=>z0i acc
 | w::ws,acc=>zi (zZ w) λv=>zgG ws (acc++[(v:Int)])
def ordr:List Int:=[16,17,18,0,8,7,9,6,10,5,11,4,12,3,13,2,14,1,15]
def z7m:List Int->List Int->Rd (List Int)
 | [],acc=>z0i acc
 | i::is,acc=>zi (zZ 3) λv=>z7m is (acc.set i.toNat (v:Int))
def z2r (L:List Int):Rd Unit:=if chk L≠0 then z5a (chk L) else z0i ()
def zpx (L l:List Int):Rd (Int×Nat):=zi (z3o L) λc=>
 if c<16 then z0i (c,1) else if c=16/\l.length=0 then z5a 12 else
  zi (zZ (if c=16 then 2 else if c=17 then 3 else 7)) λv=>z0i (if c=16 then l.getD (l.length-1) 0 else 0,v+if c=18 then 11 else 3)
def zag (L:List Int) (all:Nat):Nat->List Int->Rd (List Int)
 | 0,_=>z5a 99
 | f+1,l=>if l.length<all then zi (zpx L l) λx=>if all<l.length+x.2 then z5a 12 else zag L all f (l++List.replicate x.2 x.1) else z0i l
def zl8 (a b c:Nat):Rd (List Int×List Int):=zi (z7m (ordr.take (c+4)) (List.replicate 19 0)) λsm=>zi (z2r sm) λ_=>
 zi (zag sm (a+257+b+1) (a+257+b+2) []) λl=>z0i (l.take (a+257),l.drop (a+257))
def zo9:Rd (List Int×List Int):=zi (zgG [5,5,4] []) λh=>zl8 (h.getD 0 0).toNat (h.getD 1 0).toNat (h.getD 2 0).toNat
def zmW (c:Nat):Rd Nat:=if 285<c then z5a 12 else if c=285 then z0i 258 else if c-257<8 then z0i (c-257+3) else zi (zZ ((c-257) / 4-1)) λv=>z0i ((4+(c-257) % 4)*2^((c-257) / 4-1)+3+v)
def zcQ (c:Nat):Rd Nat:=if 29<c then z5a 12 else if c<4 then z0i (c+1) else zi (zZ (c / 2-1)) λv=>z0i ((2+c % 2)*2^(c / 2-1)+1+v)
def zaL (most:Int) (D:List Int) (c:Nat) (out:List UInt8):Rd (List UInt8):=zi (zmW c) λn=>zi (z3o D) λf=>zi (zcQ f.toNat) λd=>if out.length<d then z5a 15 else zi (z4K most out n) λ_=>z0i (z4X out d n)
def z9u (most:Int) (L D:List Int):Nat->List UInt8->Rd (List UInt8)
 | 0,_=>z5a 99
 | f+1,out=>zi (z3o L) λc=>if c<256 then zi (z4K most out 1) λ_=>z9u most L D f (out++[UInt8.ofNat c.toNat]) else if c=256 then z0i out else zi (zaL most D c.toNat out) λout=>z9u most L D f out
def ziU:List Int:=arr (λi=>if 280<=i\/i<144 then 8 else if i<256 then 9 else 7) 288
def zkT:List Int:=arr (λ_=>5) 32
def z8z (most:Int) (F:Nat) (L D:List Int) (out:List UInt8):Rd (List UInt8):=zi (z2r L) λ_=>zi (z2r D) λ_=>z9u most L D F out
def zb6 (most:Int) (F:Nat) (kind:Int) (out:List UInt8):Rd (List UInt8):=
 if kind=0 then z6L most out else if kind=1 then z8z most F ziU zkT out else if kind=2 then zi zo9 λx=>z8z most F x.1 x.2 out else z5a 13
def z6P (most:Int) (F:Nat):Nat->List UInt8->Rd (List UInt8)
 | 0,_=>z5a 99
 | f+1,out=>zi (zgG [1,2] []) λh=>zi (zb6 most F (h.getD 1 0) out) λout=>if h.getD 0 0=1 then z0i out else z6P most F f out
def za6 (most:Int) (F:Nat):Rd (List UInt8):=z6P most F F []
/-! ### What stands behind makes no difference -/
def Fr {α:Type} (m:Rd α):Prop:=∀ s t p,p<=8*s.size->match m s p with
 | .ok (a,q)=>p<=q/\q<=8*s.size/\m (s++t) p=.ok (a,q)
 | .error e=>e≠0/\(e=3\/m (s++t) p=.error e)
section
variable {α β:Type}
theorem Fr.pure (a:α):Fr (z0i a):=λ_ _ p h=>⟨Nat.le_refl _,h,rfl⟩
theorem Fr.fail {e:Int} (h:e≠0):Fr (z5a e:Rd α):=λ_ _ p _=>⟨h,.inr rfl⟩
theorem Fr.bind {m:Rd α} {f:α->Rd β} (hm:Fr m) (hf:∀ a,Fr (f a)):Fr (zi m f):=by
 intro s t p hp
 have h1:=hm s t p hp
 cases e:m s p with
 | error x=>
   rw [e] at h1
   rw [za e]
   refine ⟨h1.1,h1.2.imp id λh=>za h⟩
 | ok x=>
   obtain ⟨a,q⟩:=x
   rw [e] at h1
   obtain ⟨h1,h2,h3⟩:=h1
   rw [z9 e,z9 h3]
   have h4:=hf a s t q h2
   cases e2:f a s q with
   | error x=>rw [e2] at h4;exact h4
   | ok x=>
     obtain ⟨b,r⟩:=x
     rw [e2] at h4
     exact ⟨Nat.le_trans h1 h4.1,h4.2.1,h4.2.2⟩
theorem Fr.ite {c:Prop} [Decidable c] {a b:Rd α} (ha:c->Fr a) (hb:¬ c->Fr b):Fr (if c then a else b):=by
 by_cases h:c
 · rw [if_pos h];exact ha h
 · rw [if_neg h];exact hb h
end
theorem size_append (s t:ByteArray):(s++t).size=s.size+t.size:=ByteArray.size_append
theorem zaR {s:ByteArray} (t:ByteArray) {i:Nat} (h:i<s.size):ze (s++t) i=ze s i:=by
 unfold ze
 rw [zb7,List.getElem?_append_left (by rw [zL];exact h)]
theorem zcy {s:ByteArray} (t:ByteArray) {i:Nat} (h:i<8*s.size):z2T (s++t) i=z2T s i:=by
 unfold z2T
 rw [zaR t (by omega)]
theorem zfa {s:ByteArray} (t:ByteArray) {p:Nat}:∀ {n:Nat},p+n<=8*s.size->val (s++t) p n=val s p n
 | 0,_=>rfl
 | n+1,h=>by rw [val,val,zfa t (by omega),zcy (s:=s) t (by omega)]
theorem Fr.bits (n:Nat):Fr (zZ n):=by
 intro s t p hp
 unfold zZ
 by_cases h:8*s.size<p+n
 · rw [if_pos h];exact ⟨by decide,.inl rfl⟩
 · rw [if_neg h,if_neg (by rw [size_append];omega),zfa t (by omega)]
   exact ⟨by omega,by omega,rfl⟩
theorem Fr.bytes (n:Nat):Fr (z34 n):=by
 intro s t p hp
 unfold z34
 by_cases h:s.size<(p+7) / 8+n
 · rw [if_pos h];exact ⟨by decide,.inl rfl⟩
 · rw [if_neg h,if_neg (by rw [size_append];omega)]
   refine ⟨by omega,by omega,?_⟩
   congr 2
   refine z8S (by rw [size_extract,size_extract,size_append];omega) λi hi=>?_
   rw [size_extract,size_append] at hi
   rw [zS _ _ _ _ (by omega),zS _ _ _ _ (by omega),zaR (s:=s) t (by omega)]
theorem zoA {L:List Int} {s t:ByteArray}:∀ (k n c p:Nat),p<=8*s.size->(dec L s k n c p).2.1=3\/dec L (s++t) k n c p=dec L s k n c p/\p<=(dec L s k n c p).2.2
 | 0,_,_,_,_=>.inr ⟨rfl,Nat.le_refl _⟩
 | k+1,n,c,p,hp=>by
   unfold dec
   by_cases h:8*s.size<=p
   · rw [if_pos h];exact .inl rfl
   · rw [if_neg h,if_neg (by rw [size_append];omega),zcy (s:=s) t (by omega)]
     cases fnd L n (2*c+z2T s p) with
     | some i=>exact .inr ⟨rfl,Nat.le_succ _⟩
     | none=>
       rcases zoA (L:=L) (s:=s) (t:=t) k (n+1) (2*c+z2T s p) (p+1) (by omega) with h' | h'
       · exact .inl h'
       · exact .inr ⟨h'.1,by have:=h'.2;dsimp only;omega⟩
theorem Fr.next (L:List Int):Fr (z3o L):=by
 intro s t p hp
 unfold z3o
 have hle:=zeZ (L:=L) (s:=s) (z1T L) 1 0 hp
 have h:=zoA (L:=L) (s:=s) (t:=t) (z1T L) 1 0 p hp
 obtain ⟨D,hD⟩:∃ D,dec L s (z1T L) 1 0 p=D:=⟨_,rfl⟩
 rw [hD] at h hle ⊢
 by_cases h0:D.2.1=0
 · rw [if_pos h0]
   rcases h with h | ⟨h,h'⟩
   · omega
   · rw [h,if_pos h0];exact ⟨h',hle,rfl⟩
 · rw [if_neg h0]
   refine ⟨h0,?_⟩
   rcases h with h | ⟨h,h'⟩
   · exact .inl h
   · rw [h,if_neg h0];exact .inr rfl
theorem Fr.pair:Fr zh7:=.bind (.bytes 2) λ_=>.pure _
theorem Fr.room (most:Int) (out:List UInt8) (n:Nat):Fr (z4K most out n):=.ite (λ_=>.fail (by decide)) λ_=>.pure _
theorem Fr.stored (most:Int) (out:List UInt8):Fr (z6L most out):=.bind .pair λ_=>.bind .pair λ_=>.ite (λ_=>.fail (by decide)) λ_=>.bind (.bytes _) λ_=>.bind (.room _ _ _) λ_=>.pure _
theorem Fr.sev:∀ (ws:List Nat) (acc:List Int),Fr (zgG ws acc)
 | [],_=>.pure _
 | _::ws,_=>.bind (.bits _) λ_=>Fr.sev ws _
theorem Fr.small:∀ (is:List Int) (acc:List Int),Fr (z7m is acc)
 | [],_=>.pure _
 | _::is,_=>.bind (.bits _) λ_=>Fr.small is _
theorem Fr.table (L:List Int):Fr (z2r L):=by
 unfold z2r
 by_cases h:chk L≠0
 · rw [if_pos h];exact .fail h
 · rw [if_neg h];exact .pure _
theorem Fr.run (L l:List Int):Fr (zpx L l):=.bind (.next L) λ_=>.ite (λ_=>.pure _) λ_=>.ite (λ_=>.fail (by decide)) λ_=>.bind (.bits _) λ_=>.pure _
theorem Fr.lens (L:List Int) (all:Nat):∀ (f:Nat) (l:List Int),Fr (zag L all f l)
 | 0,_=>.fail (by decide)
 | f+1,l=>.ite (λ_=>.bind (.run L l) λ_=>.ite (λ_=>.fail (by decide)) λ_=>Fr.lens L all f _) λ_=>.pure _
theorem Fr.dynT (a b c:Nat):Fr (zl8 a b c):=.bind (.small _ _) λ_=>.bind (.table _) λ_=>.bind (.lens _ _ _ _) λ_=>.pure _
theorem Fr.dyn:Fr zo9:=.bind (.sev _ _) λ_=>.dynT _ _ _
theorem Fr.len (c:Nat):Fr (zmW c):=.ite (λ_=>.fail (by decide)) λ_=>.ite (λ_=>.pure _) λ_=>.ite (λ_=>.pure _) λ_=>.bind (.bits _) λ_=>.pure _
theorem Fr.dist (c:Nat):Fr (zcQ c):=.ite (λ_=>.fail (by decide)) λ_=>.ite (λ_=>.pure _) λ_=>.bind (.bits _) λ_=>.pure _
theorem Fr.mtch (most:Int) (D:List Int) (c:Nat) (out:List UInt8):Fr (zaL most D c out):=.bind (.len c) λ_=>.bind (.next D) λ_=>.bind (.dist _) λ_=>.ite (λ_=>.fail (by decide)) λ_=>.bind (.room _ _ _) λ_=>.pure _
theorem Fr.syms (most:Int) (L D:List Int):∀ (f:Nat) (out:List UInt8),Fr (z9u most L D f out)
 | 0,_=>.fail (by decide)
 | f+1,out=>.bind (.next L) λ_=>.ite (λ_=>.bind (.room _ _ _) λ_=>Fr.syms most L D f _) λ_=>.ite (λ_=>.pure _) λ_=>.bind (.mtch _ _ _ _) λ_=>Fr.syms most L D f _
theorem Fr.codes (most:Int) (F:Nat) (L D:List Int) (out:List UInt8):Fr (z8z most F L D out):=.bind (.table L) λ_=>.bind (.table D) λ_=>.syms _ _ _ _ _
theorem Fr.block (most:Int) (F:Nat) (kind:Int) (out:List UInt8):Fr (zb6 most F kind out):=.ite (λ_=>.stored _ _) λ_=>.ite (λ_=>.codes _ _ _ _ _) λ_=>.ite (λ_=>.bind .dyn λ_=>.codes _ _ _ _ _) λ_=>.fail (by decide)
theorem Fr.blocks (most:Int) (F:Nat):∀ (f:Nat) (out:List UInt8),Fr (z6P most F f out)
 | 0,_=>.fail (by decide)
 | f+1,out=>.bind (.sev _ _) λ_=>.bind (.block _ _ _ _) λ_=>.ite (λ_=>.pure _) λ_=>Fr.blocks most F f _
theorem Fr.infl (most:Int) (F:Nat):Fr (za6 most F):=.blocks _ _ _ _
end
end Go.Vit
