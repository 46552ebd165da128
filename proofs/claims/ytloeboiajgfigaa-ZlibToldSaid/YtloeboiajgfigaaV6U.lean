/- What a deflated stream says (as in the third seat) -/
import Derived.Test.YtloeboiajgfigaaV6Q
import Derived.Test.YtloeboiajgfigaaV6Gi
import Derived.Test.YtloeboiajgfigaaVm3
set_option linter.unusedVariables false
set_option linter.unusedSimpArgs false
set_option linter.unusedSimpArgs false
set_option maxRecDepth 20000
namespace Go.Vit
open Go.Proofs
section
def rdBytes (s:ByteArray) (at':Nat) (n:Int):ByteArray×Int×Nat:=
 if n<0 then (ByteArray.empty,1,at') else if ((s.size-(at'+7) / 8:Nat):Int)<n then (ByteArray.empty,3,8*((at'+7) / 8)) else (s.extract ((at'+7) / 8) ((at'+7) / 8+n.toNat),0,8*((at'+7) / 8)+8*n.toNat)
theorem bits_Reader_Bytes {s:ByteArray} {at' r:Nat} {n:Int} {σ:Mem} (hs:s.size<=2^50) (h:σ.get r=some (rdP s at')) (ha:at'<=8*s.size) :
 ACalls PG n_bits_Reader_Bytes [.ptr r 0,.int .i64 n] σ fun v σ'=>v=.tup [.str (rdBytes s at' n).1,.int .i64 (rdBytes s at' n).2.1]/\σ'.get r=some (rdP s (rdBytes s at' n).2.2)/\Mem.Only [r] σ σ':=by
 refine ok_bits_Reader_Bytes fun live=>?_
 unfold F_bits_Reader_Bytes
 have hr:=live.lt h
 repeat (refine To.go ?_)
 refine ifD (fun h0=>?_) (fun h0=>?_)
 · rw [rdBytes,if_pos h0]
   exact ⟨rfl,h,by repeat (with_reducible first | exact Mem.Only.refl _ _ | refine Mem.Only.bump ?_ _)⟩
 have hz:=size_extract s ((at'+7) / 8) s.size
 unfold rdP rdB at h
 repeat (first | refine To.go ?_ | ((with_reducible apply ldrw);(· ((simp (disch:=omega) only [go_sem, *];try rfl)));(· (rfl))) | ((with_reducible apply st1);(· ((simp (disch:=omega) only [go_sem, *];try rfl)));(· simp);(· rfl)))
 refine ifD (fun h2=>?_) (fun h2=>?_)
 · rw [rdBytes,if_neg h0,if_pos (by omega),rdP_byte]
   exact ⟨rfl,by rw [gB gS'];rfl,by repeat (with_reducible first | exact Mem.Only.refl _ _ | refine Mem.Only.bump ?_ _ | refine Mem.Only.put ?_ (by simp) _)⟩
 obtain ⟨n,rfl⟩:=int_nat (by omega:0<=n)
 repeat (first | refine To.go ?_ | with_reducible refine And.intro (by omega) ?_ | ((with_reducible apply ldrw);(· ((simp (disch:=omega) only [go_sem, *];try rfl)));(· (rfl))) | ((with_reducible apply st1);(· ((simp (disch:=omega) only [go_sem, *];try rfl)));(· simp);(· rfl)))
 rw [rdBytes,if_neg h0,if_neg (by omega)]
 simp only [Int.toNat_natCast,Int.reduceToNat,Nat.mul_one,Nat.zero_add,Nat.add_zero]
 rw [show 8*((at'+7) / 8)+8*n=8*((at'+7) / 8+n) from by omega,rdP_byte]
 refine ⟨?_,?_,by repeat (with_reducible first | exact Mem.Only.refl _ _ | refine Mem.Only.bump ?_ _ | refine Mem.Only.put ?_ (by simp) _)⟩
 · rw [extract_extract s (by omega)];rfl
 · rw [gB gS',hz,extract_extract s (by omega),show (at'+7) / 8+(min s.size s.size-(at'+7) / 8)=s.size from by omega];rfl
end
section
abbrev Rd (α:Type):=ByteArray->Nat->Except Int (α×Nat)
section
variable {α β:Type}
def rPure (a:α):Rd α:=fun _ p=>.ok (a,p)
def rFail (e:Int):Rd α:=fun _ _=>.error e
def rBind (m:Rd α) (f:α->Rd β):Rd β:=fun s p=>match m s p with
 | .ok (a,q)=>f a s q
 | .error e=>.error e
theorem rBind_ok {m:Rd α} {f:α->Rd β} {s:ByteArray} {p q:Nat} {a:α} (h:m s p=.ok (a,q)):rBind m f s p=f a s q:=by unfold rBind;rw [h]
theorem rBind_er {m:Rd α} {f:α->Rd β} {s:ByteArray} {p:Nat} {e:Int} (h:m s p=.error e):rBind m f s p=.error e:=by unfold rBind;rw [h]
end
def rBits (n:Nat):Rd Nat:=fun s p=>if 8*s.size<p+n then .error 3 else .ok (val s p n,p+n)
def rBytes (n:Nat):Rd ByteArray:=fun s p=>if s.size<(p+7) / 8+n then .error 3 else .ok (s.extract ((p+7) / 8) ((p+7) / 8+n),8*((p+7) / 8)+8*n)
def rNext (L:List Int):Rd Int:=fun s p=>if (dec L s (mostN L) 1 0 p).2.1=0 then .ok ((dec L s (mostN L) 1 0 p).1,(dec L s (mostN L) 1 0 p).2.2) else .error (dec L s (mostN L) 1 0 p).2.1
theorem rdBits_of {s:ByteArray} {p n:Nat} (hp:p<=8*s.size) (hn:n<=24):rdBits s p n=match rBits n s p with
 | .ok (v,q)=>(v,0,q)
 | .error e=>(0,e,p):=by
 unfold rdBits rBits
 rw [if_neg (by omega),Int.toNat_natCast]
 by_cases h:8*s.size<p+n
 · rw [if_pos h,if_pos (by omega)]
 · rw [if_neg h,if_neg (by omega)]
theorem rdBytes_of {s:ByteArray} {p n:Nat} (hp:p<=8*s.size):rdBytes s p n=match rBytes n s p with
 | .ok (v,q)=>(v,0,q)
 | .error e=>(ByteArray.empty,e,8*((p+7) / 8)):=by
 unfold rdBytes rBytes
 rw [if_neg (by omega),Int.toNat_natCast]
 by_cases h:s.size<(p+7) / 8+n
 · rw [if_pos h,if_pos (by omega)]
 · rw [if_neg h,if_neg (by omega)]
/-! ### The stream -/
def rPair:Rd Nat:=rBind (rBytes 2) fun b=>rPure (byteAt b 0 ||| byteAt b 1*256)
def rRoom (most:Int) (out:List UInt8) (n:Nat):Rd Unit:=if most-out.length<n then rFail 5 else rPure ()
def rStored (most:Int) (out:List UInt8):Rd (List UInt8):=
 rBind rPair fun n=>rBind rPair fun m=>if n ^^^ m≠65535 then rFail 14 else rBind (rBytes n) fun b=>rBind (rRoom most out n) fun _=>rPure (out++bytesL b)
def rSev:List Nat->List Int->Rd (List Int)
 | [],acc=>rPure acc
 | w::ws,acc=>rBind (rBits w) fun v=>rSev ws (acc++[(v:Int)])
def ordr:List Int:=[16,17,18,0,8,7,9,6,10,5,11,4,12,3,13,2,14,1,15]
def rSmall:List Int->List Int->Rd (List Int)
 | [],acc=>rPure acc
 | i::is,acc=>rBind (rBits 3) fun v=>rSmall is (acc.set i.toNat (v:Int))
def rTable (L:List Int):Rd Unit:=if chk L≠0 then rFail (chk L) else rPure ()
def rRun (L l:List Int):Rd (Int×Nat):=rBind (rNext L) fun c=>
 if c<16 then rPure (c,1) else if c=16/\l.length=0 then rFail 12 else
  rBind (rBits (if c=16 then 2 else if c=17 then 3 else 7)) fun v=>rPure (if c=16 then l.getD (l.length-1) 0 else 0,v+if c=18 then 11 else 3)
def rLens (L:List Int) (all:Nat):Nat->List Int->Rd (List Int)
 | 0,_=>rFail 99
 | f+1,l=>if l.length<all then rBind (rRun L l) fun x=>if all<l.length+x.2 then rFail 12 else rLens L all f (l++List.replicate x.2 x.1) else rPure l
def rDynT (a b c:Nat):Rd (List Int×List Int):=rBind (rSmall (ordr.take (c+4)) (List.replicate 19 0)) fun sm=>rBind (rTable sm) fun _=>
 rBind (rLens sm (a+257+b+1) (a+257+b+2) []) fun l=>rPure (l.take (a+257),l.drop (a+257))
def rDyn:Rd (List Int×List Int):=rBind (rSev [5,5,4] []) fun h=>rDynT (h.getD 0 0).toNat (h.getD 1 0).toNat (h.getD 2 0).toNat
def rLen (c:Nat):Rd Nat:=if 285<c then rFail 12 else if c=285 then rPure 258 else if c-257<8 then rPure (c-257+3) else rBind (rBits ((c-257) / 4-1)) fun v=>rPure ((4+(c-257) % 4)*2^((c-257) / 4-1)+3+v)
def rDist (c:Nat):Rd Nat:=if 29<c then rFail 12 else if c<4 then rPure (c+1) else rBind (rBits (c / 2-1)) fun v=>rPure ((2+c % 2)*2^(c / 2-1)+1+v)
def rMatch (most:Int) (D:List Int) (c:Nat) (out:List UInt8):Rd (List UInt8):=rBind (rLen c) fun n=>rBind (rNext D) fun f=>rBind (rDist f.toNat) fun d=>if out.length<d then rFail 15 else rBind (rRoom most out n) fun _=>rPure (copyN out d n)
def rSyms (most:Int) (L D:List Int):Nat->List UInt8->Rd (List UInt8)
 | 0,_=>rFail 99
 | f+1,out=>rBind (rNext L) fun c=>if c<256 then rBind (rRoom most out 1) fun _=>rSyms most L D f (out++[UInt8.ofNat c.toNat]) else if c=256 then rPure out else rBind (rMatch most D c.toNat out) fun out=>rSyms most L D f out
def fixL:List Int:=arr (fun i=>if 280<=i\/i<144 then 8 else if i<256 then 9 else 7) 288
def fixD:List Int:=arr (fun _=>5) 32
def rCodes (most:Int) (F:Nat) (L D:List Int) (out:List UInt8):Rd (List UInt8):=rBind (rTable L) fun _=>rBind (rTable D) fun _=>rSyms most L D F out
def rBlock (most:Int) (F:Nat) (kind:Int) (out:List UInt8):Rd (List UInt8):=
 if kind=0 then rStored most out else if kind=1 then rCodes most F fixL fixD out else if kind=2 then rBind rDyn fun x=>rCodes most F x.1 x.2 out else rFail 13
def rBlocks (most:Int) (F:Nat):Nat->List UInt8->Rd (List UInt8)
 | 0,_=>rFail 99
 | f+1,out=>rBind (rSev [1,2] []) fun h=>rBind (rBlock most F (h.getD 1 0) out) fun out=>if h.getD 0 0=1 then rPure out else rBlocks most F f out
def rInfl (most:Int) (F:Nat):Rd (List UInt8):=rBlocks most F F []
/-! ### What stands behind makes no difference -/
def Fr {α:Type} (m:Rd α):Prop:=∀ s t p,p<=8*s.size->match m s p with
 | .ok (a,q)=>p<=q/\q<=8*s.size/\m (s++t) p=.ok (a,q)
 | .error e=>e≠0/\(e=3\/m (s++t) p=.error e)
section
variable {α β:Type}
theorem Fr.pure (a:α):Fr (rPure a):=fun _ _ p h=>⟨Nat.le_refl _,h,rfl⟩
theorem Fr.fail {e:Int} (h:e≠0):Fr (rFail e:Rd α):=fun _ _ p _=>⟨h,.inr rfl⟩
theorem Fr.bind {m:Rd α} {f:α->Rd β} (hm:Fr m) (hf:∀ a,Fr (f a)):Fr (rBind m f):=by
 intro s t p hp
 have h1:=hm s t p hp
 cases e:m s p with
 | error x=>
   rw [e] at h1
   rw [rBind_er e]
   refine ⟨h1.1,h1.2.imp id fun h=>rBind_er h⟩
 | ok x=>
   obtain ⟨a,q⟩:=x
   rw [e] at h1
   obtain ⟨h1,h2,h3⟩:=h1
   rw [rBind_ok e,rBind_ok h3]
   have h4:=hf a s t q h2
   cases e2:f a s q with
   | error x=>rw [e2] at h4;exact h4
   | ok x=>
     obtain ⟨b,r⟩:=x
     rw [e2] at h4
     exact ⟨Nat.le_trans h1 h4.1,h4.2.1,h4.2.2⟩
theorem Fr.ite {c:Prop} [Decidable c] {a b:Rd α} (ha:c->Fr a) (hb:¬ c->Fr b):Fr (if c then a else b):=by
 by_cases h:c
 · rw [if_pos h];exact ha h
 · rw [if_neg h];exact hb h
end
theorem size_append (s t:ByteArray):(s++t).size=s.size+t.size:=ByteArray.size_append
theorem byteAt_append {s:ByteArray} (t:ByteArray) {i:Nat} (h:i<s.size):byteAt (s++t) i=byteAt s i:=by
 unfold byteAt
 rw [bytesL_append,List.getElem?_append_left (by rw [bytesL_length];exact h)]
theorem bitAt_append {s:ByteArray} (t:ByteArray) {i:Nat} (h:i<8*s.size):bitAt (s++t) i=bitAt s i:=by
 unfold bitAt
 rw [byteAt_append t (by omega)]
theorem val_append {s:ByteArray} (t:ByteArray) {p:Nat}:∀ {n:Nat},p+n<=8*s.size->val (s++t) p n=val s p n
 | 0,_=>rfl
 | n+1,h=>by rw [val,val,val_append t (by omega),bitAt_append (s:=s) t (by omega)]
theorem Fr.bits (n:Nat):Fr (rBits n):=by
 intro s t p hp
 unfold rBits
 by_cases h:8*s.size<p+n
 · rw [if_pos h];exact ⟨by decide,.inl rfl⟩
 · rw [if_neg h,if_neg (by rw [size_append];omega),val_append t (by omega)]
   exact ⟨by omega,by omega,rfl⟩
theorem Fr.bytes (n:Nat):Fr (rBytes n):=by
 intro s t p hp
 unfold rBytes
 by_cases h:s.size<(p+7) / 8+n
 · rw [if_pos h];exact ⟨by decide,.inl rfl⟩
 · rw [if_neg h,if_neg (by rw [size_append];omega)]
   refine ⟨by omega,by omega,?_⟩
   congr 2
   refine bytes_ext (by rw [size_extract,size_extract,size_append];omega) fun i hi=>?_
   rw [size_extract,size_append] at hi
   rw [byteAt_extract _ _ _ _ (by omega),byteAt_extract _ _ _ _ (by omega),byteAt_append (s:=s) t (by omega)]
theorem dec_fr {L:List Int} {s t:ByteArray}:∀ (k n c p:Nat),p<=8*s.size->(dec L s k n c p).2.1=3\/dec L (s++t) k n c p=dec L s k n c p/\p<=(dec L s k n c p).2.2
 | 0,_,_,_,_=>.inr ⟨rfl,Nat.le_refl _⟩
 | k+1,n,c,p,hp=>by
   unfold dec
   by_cases h:8*s.size<=p
   · rw [if_pos h];exact .inl rfl
   · rw [if_neg h,if_neg (by rw [size_append];omega),bitAt_append (s:=s) t (by omega)]
     cases fnd L n (2*c+bitAt s p) with
     | some i=>exact .inr ⟨rfl,Nat.le_succ _⟩
     | none=>
       rcases dec_fr (L:=L) (s:=s) (t:=t) k (n+1) (2*c+bitAt s p) (p+1) (by omega) with h' | h'
       · exact .inl h'
       · exact .inr ⟨h'.1,by have:=h'.2;dsimp only;omega⟩
theorem Fr.next (L:List Int):Fr (rNext L):=by
 intro s t p hp
 unfold rNext
 have hle:=dec_le (L:=L) (s:=s) (mostN L) 1 0 hp
 have h:=dec_fr (L:=L) (s:=s) (t:=t) (mostN L) 1 0 p hp
 obtain ⟨D,hD⟩:∃ D,dec L s (mostN L) 1 0 p=D:=⟨_,rfl⟩
 rw [hD] at h hle ⊢
 by_cases h0:D.2.1=0
 · rw [if_pos h0]
   rcases h with h | ⟨h,h'⟩
   · omega
   · rw [h,if_pos h0];exact ⟨h',hle,rfl⟩
 · rw [if_neg h0]
   refine ⟨h0,?_⟩
   rcases h with h | ⟨h,h'⟩
   · exact .inl h
   · rw [h,if_neg h0];exact .inr rfl
theorem Fr.pair:Fr rPair:=.bind (.bytes 2) fun _=>.pure _
theorem Fr.room (most:Int) (out:List UInt8) (n:Nat):Fr (rRoom most out n):=.ite (fun _=>.fail (by decide)) fun _=>.pure _
theorem Fr.stored (most:Int) (out:List UInt8):Fr (rStored most out):=.bind .pair fun _=>.bind .pair fun _=>.ite (fun _=>.fail (by decide)) fun _=>.bind (.bytes _) fun _=>.bind (.room _ _ _) fun _=>.pure _
theorem Fr.sev:∀ (ws:List Nat) (acc:List Int),Fr (rSev ws acc)
 | [],_=>.pure _
 | _::ws,_=>.bind (.bits _) fun _=>Fr.sev ws _
theorem Fr.small:∀ (is:List Int) (acc:List Int),Fr (rSmall is acc)
 | [],_=>.pure _
 | _::is,_=>.bind (.bits _) fun _=>Fr.small is _
theorem Fr.table (L:List Int):Fr (rTable L):=by
 unfold rTable
 by_cases h:chk L≠0
 · rw [if_pos h];exact .fail h
 · rw [if_neg h];exact .pure _
theorem Fr.run (L l:List Int):Fr (rRun L l):=.bind (.next L) fun _=>.ite (fun _=>.pure _) fun _=>.ite (fun _=>.fail (by decide)) fun _=>.bind (.bits _) fun _=>.pure _
theorem Fr.lens (L:List Int) (all:Nat):∀ (f:Nat) (l:List Int),Fr (rLens L all f l)
 | 0,_=>.fail (by decide)
 | f+1,l=>.ite (fun _=>.bind (.run L l) fun _=>.ite (fun _=>.fail (by decide)) fun _=>Fr.lens L all f _) fun _=>.pure _
theorem Fr.dynT (a b c:Nat):Fr (rDynT a b c):=.bind (.small _ _) fun _=>.bind (.table _) fun _=>.bind (.lens _ _ _ _) fun _=>.pure _
theorem Fr.dyn:Fr rDyn:=.bind (.sev _ _) fun _=>.dynT _ _ _
theorem Fr.len (c:Nat):Fr (rLen c):=.ite (fun _=>.fail (by decide)) fun _=>.ite (fun _=>.pure _) fun _=>.ite (fun _=>.pure _) fun _=>.bind (.bits _) fun _=>.pure _
theorem Fr.dist (c:Nat):Fr (rDist c):=.ite (fun _=>.fail (by decide)) fun _=>.ite (fun _=>.pure _) fun _=>.bind (.bits _) fun _=>.pure _
theorem Fr.mtch (most:Int) (D:List Int) (c:Nat) (out:List UInt8):Fr (rMatch most D c out):=.bind (.len c) fun _=>.bind (.next D) fun _=>.bind (.dist _) fun _=>.ite (fun _=>.fail (by decide)) fun _=>.bind (.room _ _ _) fun _=>.pure _
theorem Fr.syms (most:Int) (L D:List Int):∀ (f:Nat) (out:List UInt8),Fr (rSyms most L D f out)
 | 0,_=>.fail (by decide)
 | f+1,out=>.bind (.next L) fun _=>.ite (fun _=>.bind (.room _ _ _) fun _=>Fr.syms most L D f _) fun _=>.ite (fun _=>.pure _) fun _=>.bind (.mtch _ _ _ _) fun _=>Fr.syms most L D f _
theorem Fr.codes (most:Int) (F:Nat) (L D:List Int) (out:List UInt8):Fr (rCodes most F L D out):=.bind (.table L) fun _=>.bind (.table D) fun _=>.syms _ _ _ _ _
theorem Fr.block (most:Int) (F:Nat) (kind:Int) (out:List UInt8):Fr (rBlock most F kind out):=.ite (fun _=>.stored _ _) fun _=>.ite (fun _=>.codes _ _ _ _ _) fun _=>.ite (fun _=>.bind .dyn fun _=>.codes _ _ _ _ _) fun _=>.fail (by decide)
theorem Fr.blocks (most:Int) (F:Nat):∀ (f:Nat) (out:List UInt8),Fr (rBlocks most F f out)
 | 0,_=>.fail (by decide)
 | f+1,out=>.bind (.sev _ _) fun _=>.bind (.block _ _ _ _) fun _=>.ite (fun _=>.pure _) fun _=>Fr.blocks most F f _
theorem Fr.infl (most:Int) (F:Nat):Fr (rInfl most F):=.blocks _ _ _ _
end
end Go.Vit
