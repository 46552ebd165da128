/- Streams with a head and a sum. -/
import Derived.Test.YtloeboiajgfigaaV6Pl
set_option linter.unusedVariables false
set_option linter.unusedSimpArgs false
set_option linter.unusedSimpArgs false
set_option maxRecDepth 20000
namespace Go.Vit
open Go.Proofs
def adlTo (s:ByteArray) (i:Nat):Nat×Nat:=
 match i with
 | 0=>(1,0)
 | i+1=>(((adlTo s i).1+byteAt s i) % 65521,((adlTo s i).2+((adlTo s i).1+byteAt s i) % 65521) % 65521)
def adlOf (s:ByteArray):Nat:=65536*(adlTo s s.size).2+(adlTo s s.size).1
theorem adlTo_lt (s:ByteArray):∀ i,(adlTo s i).1<65521/\(adlTo s i).2<65521
 | 0=>by simp [adlTo]
 | i+1=>by simp only [adlTo];omega
theorem or_add {a b:Nat} (h:a<65536):(b*65536) ||| a=65536*b+a:=by
 have:=Nat.shiftLeft_add_eq_or_of_lt (i:=16) (by simpa using h) b
 rw [Nat.shiftLeft_eq,show (2:Nat)^16=65536 from rfl] at this
 omega
theorem bits_Adler (s:ByteArray) (hs:s.size<=2^50) (σ:Mem):ACalls PG n_bits_Adler [.str s] σ fun v σ'=>v=.int .i64 (adlOf s)/\σ.Same σ':=by
 refine ok_bits_Adler fun _=>?_
 unfold F_bits_Adler
 refine loop3 (fun (i:Nat) (a b k:Int) σ'=>a=(adlTo s i).1/\b=(adlTo s i).2/\k=i/\i<=s.size/\σ.Same σ') (fun i=>s.size-i) 0 ⟨by simp [adlTo],by simp [adlTo],rfl,by omega,(Mem.Same.refl σ).bump _⟩ ?_
 rintro i a b k σ1 ⟨rfl,rfl,rfl,hi,h1⟩
 have hb:=byteAt_lt s i
 obtain ⟨ha,hb2⟩:=adlTo_lt s i
 unfold F_bits_Adler_l1
 refine ifD (fun hlt=>?_) (fun hge=>?_)
 · repeat (first | refine To.go ?_ | with_reducible refine And.intro (by omega) ?_)
   refine again ⟨i+1,⟨?_,?_,by omega,by omega,h1.bump _⟩,by omega⟩
   · simp only [adlTo];omega
   · simp only [adlTo];omega
 · obtain rfl:i=s.size:=by omega
   repeat (first | refine To.go ?_ | with_reducible refine And.intro (by omega) ?_)
   rw [bitsO (by omega) (by omega)]
   refine ⟨?_,h1.bump _⟩
   rw [show (((adlTo s s.size).2:Int)*65536).toNat=(adlTo s s.size).2*65536 from by omega,Int.toNat_natCast,or_add (by omega)]
   rfl
theorem adl_lt (s:ByteArray):adlOf s<2^32:=by
 have:=adlTo_lt s s.size
 unfold adlOf;omega
def sumL (s:ByteArray):List UInt8:=[UInt8.ofNat (adlOf s / 16777216),UInt8.ofNat (adlOf s / 65536),UInt8.ofNat (adlOf s / 256),UInt8.ofNat (adlOf s)]
def sum4 (s:ByteArray):ByteArray:=⟨(sumL s).toArray⟩
theorem wrap8 (n:Nat):IntKind.u8.wrap ((n:Nat):Int)=((n % 256:Nat):Int):=by
 rw [IntKind.wrap_u8];omega
theorem zlib_sum {s:ByteArray} (hs:s.size<=2^50) {σ:Mem}:ACalls PG n_zlib_sum [.str s] σ fun v σ'=>v=.str (sum4 s)/\σ.Same σ':=by
 refine ok_zlib_sum fun live=>?_
 unfold F_zlib_sum
 refine callW_of (bits_Adler s hs (σ.bump 4)) ?_
 rintro _ σ1 ⟨rfl,s1⟩
 have s01:=s1.ob
 have n1:=s01.next
 have hl:=adl_lt s
 obtain ⟨n,hn⟩:∃ n,adlOf s=n:=⟨_,rfl⟩
 unfold sum4 sumL
 rw [hn] at hl ⊢
 refine To.go ?_
 dsimp only [letW,wrW]
 rw [show ((n:Nat):Int) / 16777216=((n / 16777216:Nat):Int) from by omega,show ((n:Nat):Int) / 65536=((n / 65536:Nat):Int) from by omega,show ((n:Nat):Int) / 256=((n / 256:Nat):Int) from by omega,wrap8,wrap8,wrap8,wrap8]
 refine To.go ?_
 refine bstr_bl (l:=[UInt8.ofNat (n / 16777216),UInt8.ofNat (n / 65536),UInt8.ofNat (n / 256),UInt8.ofNat n]) ?_ rfl ?_
 · rw [gS']
   unfold bl
   simp only [List.map_cons,List.map_nil,UInt8.toNat_ofNat',Nat.reducePow]
 · exact ⟨rfl,Mem.Same.put (s01.bump _) (by omega) _⟩
def headOk (a b:Nat):Prop:=a % 16=8/\a / 16<=7/\(256*a+b) % 31=0/\b / 32 % 2=0
instance (a b:Nat):Decidable (headOk a b):=by unfold headOk;infer_instance
theorem and32:∀ b:Fin 256,(b.val &&& 32=0)↔b.val / 32 % 2=0:=by decide +kernel
theorem zlib_right {a b:Nat} (ha:a<256) (hb:b<256) {σ:Mem}:ACalls PG n_zlib_right [.int .i64 (a:Nat),.int .i64 (b:Nat)] σ fun v σ'=>v=.bool (decide (headOk a b))/\σ.Same σ':=by
 refine ok_zlib_right fun live=>?_
 unfold F_zlib_right
 have hs:∀ k,σ.Same (σ.bump k):=fun k=>(Mem.Same.refl σ).bump k
 have no:¬ headOk a b->AV.bool false=AV.bool (decide (headOk a b)):=fun h=>by rw [decide_eq_false h]
 have e15:bitsOp .and .i64 ((a:Nat):Int) 15=((a % 16:Nat):Int):=by
  rw [bitsA (by omega) (by omega),Int.toNat_natCast,show Int.toNat 15=2^4-1 from rfl,Nat.and_two_pow_sub_one_eq_mod]
 have eor:bitsOp .or .i64 (((a*256:Nat):Nat):Int) ((b:Nat):Int)=((256*a+b:Nat):Int):=by
  rw [bitsO (by omega) (by omega),Int.toNat_natCast,Int.toNat_natCast,Nat.or_comm,two_or hb,show b+a*256=256*a+b from by omega]
 have e32:bitsOp .and .i64 ((b:Nat):Int) 32=((b &&& 32:Nat):Int):=by
  rw [bitsA (by omega) (by omega),Int.toNat_natCast];rfl
 have h32:=and32 ⟨b,hb⟩
 dsimp only at h32
 dsimp only [letW]
 rw [e15]
 refine ifD (fun h8=>?_) (fun h8=>⟨no fun h=>by have:=h.1;omega,hs _⟩)
 refine ifD (fun h7=>?_) (fun h7=>⟨no fun h=>by have:=h.2.1;omega,hs _⟩)
 refine iW_of (by omega) ?_
 rw [show ((a:Nat):Int)*256=((a*256:Nat):Int) from by omega,eor]
 refine remN (m:=31) (by decide) ?_
 refine ifD (fun h31=>?_) (fun h31=>⟨no fun h=>by have:=h.2.2.1;omega,hs _⟩)
 rw [e32]
 refine ⟨?_,hs _⟩
 congr 1
 apply decide_eq_decide.2
 constructor
 · intro h
   exact ⟨by omega,by omega,by omega,h32.1 (by omega)⟩
 · intro h
   have:=h32.2 h.2.2.2
   omega
def zhd:ByteArray:=⟨#[120,1]⟩
def zwrap (s:ByteArray) (k:Nat):ByteArray:=zhd++best3 s k++sum4 s
theorem back_best {s:ByteArray} {k:Nat} (hs:s.size<=20000) (hk:Done s k):Back s (best3 s k):=
 best2_cases (best2_cases (back_stored hs).1 (back_fixed hs hk)) (back_dyn hs hk)
theorem zlib_Wrap {s:ByteArray} (hs:s.size<=20000) {σ:Mem}:ACalls PG n_zlib_Wrap [.str s] σ fun v σ'=>(∃ k,Done s k/\v=.str (zwrap s k))/\σ.Same σ':=by
 refine ok_zlib_Wrap fun live=>?_
 unfold F_zlib_Wrap
 refine callW_of (deflate_Deflate (σ:=σ.bump 8) hs) ?_
 rintro _ σ1 ⟨⟨k,hk,rfl⟩,s1⟩
 have hb:=(back_best hs hk).1
 refine To.go ?_
 have z2:(⟨#[120,1]⟩:ByteArray).size=2:=rfl
 have z4:(sum4 s).size=4:=rfl
 refine And.intro (by omega) ?_
 refine callW_of (zlib_sum (σ:=σ1) (by omega)) ?_
 rintro _ σ2 ⟨rfl,s2⟩
 refine To.go ?_
 have h3:=size_append ⟨#[120,1]⟩ (best3 s k)
 refine And.intro (by omega) ?_
 exact ⟨⟨k,hk,rfl⟩,s1.ob.trans s2⟩
def unz (most:Int) (F:Nat) (s:ByteArray):ByteArray×Int:=
 if s.size<2 then (⟨#[]⟩,3) else if ¬ headOk (byteAt s 0) (byteAt s 1) then (⟨#[]⟩,16) else
 match rInfl most F (s.extract 2 s.size) 0 with
 | .error e=>(⟨#[]⟩,e)
 | .ok (a,q)=>if s.size<2+(q+7) / 8+4 then (⟨#[]⟩,3) else if s.extract (2+(q+7) / 8) (2+(q+7) / 8+4)≠sum4 ⟨a.toArray⟩ then (⟨#[]⟩,17) else if 2+(q+7) / 8+4<s.size then (⟨#[]⟩,4) else (⟨a.toArray⟩,0)
theorem infl_fine {most:Int} {F:Nat} {s:ByteArray}:match rInfl most F s 0 with
 | .ok (_,q)=>(q+7) / 8<=s.size
 | .error e=>e≠0:=by
 have:=Fr.infl most F s ⟨#[]⟩ 0 (by omega)
 cases h:rInfl most F s 0 with
 | error e=>rw [h] at this;exact this.1
 | ok x=>rw [h] at this;obtain ⟨a,q⟩:=x;dsimp only at this ⊢;omega
theorem extract_extract2 (s:ByteArray) {i k:Nat} (h:i+k<=s.size):(s.extract i s.size).extract 0 k=s.extract i (i+k):=by
 refine bytes_ext ?_ fun j hj=>?_
 · simp only [size_extract];omega
 · simp only [size_extract] at hj
   rw [byteAt_extract _ _ _ _ (by omega),byteAt_extract _ _ _ _ (by omega),byteAt_extract _ _ _ _ (by omega),Nat.zero_add]
theorem zlib_Unwrap {s:ByteArray} {most:Int} {F:Nat} (hs:s.size<=2^40) (hm : -9223372036854775808<=most/\most<=2^40) (hF:8*s.size<F) {σ:Mem} :
 ACalls PG n_zlib_Unwrap [.str s,.int .i64 most] σ fun v σ'=>v=.tup [.str (unz most F s).1,.int .i64 (unz most F s).2]/\σ.Same σ':=by
 refine ok_zlib_Unwrap fun live=>?_
 unfold F_zlib_Unwrap
 have hb:∀ k,σ.Same (σ.bump k):=fun k=>(Mem.Same.refl σ).bump k
 refine ifD (fun h2=>?_) (fun h2=>?_)
 · rw [unz,if_pos (by omega)]
   exact ⟨rfl,hb _⟩
 have b0:=byteAt_lt s 0
 have b1:=byteAt_lt s 1
 refine And.intro (by omega) ?_
 refine iW_of (by rw [show Int.toNat 0=0 from rfl];omega) ?_
 refine And.intro (by omega) ?_
 refine iW_of (by rw [show Int.toNat 1=1 from rfl];omega) ?_
 rw [show Int.toNat 0=0 from rfl,show Int.toNat 1=1 from rfl]
 refine callW_of (zlib_right b0 b1 (σ:=σ.bump 15)) ?_
 rintro _ σ1 ⟨rfl,s1⟩
 have s01:=s1.ob
 refine To.go ?_
 by_cases hh:headOk (byteAt s 0) (byteAt s 1)
 · rw [decide_eq_true hh]
   refine ifF (p:=False) id ?_
   refine And.intro (by omega) ?_
   rw [show Int.toNat 2=2 from rfl,Int.toNat_natCast]
   have hz:=size_extract s 2 s.size
   have hfine:=infl_fine (most:=most) (F:=F) (s:=s.extract 2 s.size)
   have hroom:∀ a q,rInfl most F (s.extract 2 s.size) 0=.ok (a,q)->a.length<=2^40:=fun a q h=>by
    rcases infl_room h with rfl | h
    · simp
    · omega
   refine callW_of (inflate_Inflate (σ:=σ1.bump 11) (s:=s.extract 2 s.size) (most:=most) (F:=F) (by omega) hm (by omega)) ?_
   rintro _ σ2 ⟨rfl,s2⟩
   have s02:=s01.trans s2.ob
   unfold unz
   rw [if_neg (by omega),if_neg (not_not_intro hh)]
   cases hR:rInfl most F (s.extract 2 s.size) 0 with
   | error e=>
     rw [hR] at hfine
     dsimp only at hfine
     unfold inflR
     dsimp only
     refine tpS_of rfl ?_
     refine tpI_of rfl ?_
     refine tpI_of rfl ?_
     refine ifT hfine ?_
     exact ⟨rfl,s02.bump _⟩
   | ok x=>
     obtain ⟨a,q⟩:=x
     have hal:=hroom a q hR
     rw [hR] at hfine
     dsimp only at hfine
     unfold inflR
     dsimp only
     obtain ⟨n,hn⟩:∃ n,(q+7) / 8=n:=⟨_,rfl⟩
     rw [hn] at hfine ⊢
     refine tpS_of rfl ?_
     refine tpI_of rfl ?_
     refine tpI_of rfl ?_
     refine ifF (not_not_intro rfl) ?_
     refine iW_of (by omega) ?_
     refine And.intro (by omega) ?_
     rw [show (2+((n:Nat):Int)).toNat=2+n from by omega,Int.toNat_natCast]
     have hz2:=size_extract s (2+n) s.size
     refine ifD (fun h4=>?_) (fun h4=>?_)
     · rw [if_pos (by omega)]
       exact ⟨rfl,s02.bump _⟩
     · rw [if_neg (by omega)]
       refine And.intro (by omega) ?_
       rw [show Int.toNat 0=0 from rfl,show Int.toNat 4=4 from rfl,extract_extract2 s (by omega)]
       refine callW_of (zlib_sum (σ:=σ2.bump 17) (s:=⟨a.toArray⟩) (by show a.length<=2^50;omega)) ?_
       rintro _ σ3 ⟨rfl,s3⟩
       have s03:=s02.trans s3.ob
       refine To.go ?_
       refine ifD (fun h17=>?_) (fun h17=>?_)
       · rw [if_pos h17]
         exact ⟨rfl,s03.bump _⟩
       · rw [if_neg h17]
         refine ifD (fun h5=>?_) (fun h5=>?_)
         · rw [if_pos (by omega)]
           exact ⟨rfl,s03.bump _⟩
         · rw [if_neg (by omega)]
           exact ⟨rfl,s03.bump _⟩
 · rw [decide_eq_false hh]
   refine ifT (p:=True) trivial ?_
   rw [unz,if_neg (by omega),if_pos hh]
   exact ⟨rfl,s01.bump _⟩
/-! ### The chapter's examples -/
theorem aw_z1:unz 9 60 ⟨#[120,1]⟩=(⟨#[]⟩,3):=by decide +kernel
theorem aw_z2:unz 9 60 ⟨#[120,2]⟩=(⟨#[]⟩,16):=by decide +kernel
theorem aw_z3:unz 9 100 ⟨#[120,1,3,0,0,0,0,2]⟩=(⟨#[]⟩,17):=by decide +kernel
theorem aw_z4:zwrap ⟨#[]⟩ 0=⟨#[120,1,3,0,0,0,0,1]⟩:=by
 unfold zwrap
 rw [aw_best0]
 decide +kernel
theorem law06_awake (σ:Mem):ACalls PG n_law06_awake [] σ fun v σ'=>v=.bool true/\σ.Same σ':=by
 refine ok_law06_awake fun live=>?_
 unfold F_law06_awake
 refine callW_of (zlib_Unwrap (s:=⟨#[120,1]⟩) (most:=9) (F:=60) (by decide) (by decide) (by decide)) ?_
 rintro _ σ1 ⟨rfl,s1⟩
 rw [aw_z1]
 refine tpS_of rfl ?_
 refine tpI_of rfl ?_
 refine callW_of (zlib_Unwrap (s:=⟨#[120,2]⟩) (most:=9) (F:=60) (by decide) (by decide) (by decide)) ?_
 rintro _ σ2 ⟨rfl,s2⟩
 rw [aw_z2]
 refine tpS_of rfl ?_
 refine tpI_of rfl ?_
 refine callW_of (zlib_Unwrap (s:=⟨#[120,1,3,0,0,0,0,2]⟩) (most:=9) (F:=100) (by decide) (by decide) (by decide)) ?_
 rintro _ σ3 ⟨rfl,s3⟩
 rw [aw_z3]
 refine tpS_of rfl ?_
 refine tpI_of rfl ?_
 refine callW_of (zlib_Wrap (s:=⟨#[]⟩) (by decide)) ?_
 rintro _ σ4 ⟨⟨k,hk,rfl⟩,s4⟩
 obtain rfl:=done_unique hk aw_done0
 refine To.go ?_
 rw [aw_z4]
 refine ifT rfl ?_
 refine ifT rfl ?_
 refine ifT rfl ?_
 exact ⟨rfl,((s1.ob.trans s2.ob).trans s3.ob).trans s4.ob⟩
end Go.Vit
