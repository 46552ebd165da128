/- The laws ZlibHeads, ZlibBack, ZlibTold. -/
import Derived.Test.YtloeboiajgfigaaV6Z1
set_option linter.unusedVariables false
set_option linter.unusedSimpArgs false
set_option linter.unusedSimpArgs false
set_option maxRecDepth 20000
set_option maxRecDepth 20000
namespace Go.Vit
open Go.Proofs
theorem byte_nat {n:Int} (h:0<=n/\n<=255):∃ a:Nat,n=a/\a<256:=⟨n.toNat,by omega,by omega⟩
theorem infl_none:rInfl 9 60 ⟨#[]⟩ 0=.error 3:=by
 have h2:(match rInfl 9 60 ⟨#[]⟩ 0 with | .error e=>decide (e=3) | .ok _=>false)=true:=by decide +kernel
 cases h:rInfl 9 60 ⟨#[]⟩ 0 with
 | error e=>rw [h] at h2;rw [of_decide_eq_true h2]
 | ok x=>rw [h] at h2;cases h2
theorem unz_heads {a b:Nat} (ha:a<256) (hb:b<256):unz 9 60 (two a b)=(⟨#[]⟩,if headOk a b then 3 else 16):=by
 have h0:byteAt (two a b) 0=a:=by
  show (UInt8.ofNat a).toNat=a
  rw [UInt8.toNat_ofNat'];omega
 have h1:byteAt (two a b) 1=b:=by
  show (UInt8.ofNat b).toNat=b
  rw [UInt8.toNat_ofNat'];omega
 have hz:(two a b).size=2:=rfl
 have he:(two a b).extract 2 2=⟨#[]⟩:=bytes_ext (by rw [size_extract];rfl) fun i hi=>by rw [size_extract] at hi;omega
 unfold unz
 rw [hz,if_neg (by decide),h0,h1]
 by_cases h:headOk a b
 · rw [if_neg (not_not_intro h),if_pos h,he,infl_none]
 · rw [if_pos h,if_neg h]
theorem bl_two {a b:Nat} (ha:a<256) (hb:b<256):bl [UInt8.ofNat a,UInt8.ofNat b]=[.int .u8 (a:Nat),.int .u8 (b:Nat)]:=by
 unfold bl
 simp only [List.map_cons,List.map_nil,UInt8.toNat_ofNat']
 rw [Nat.mod_eq_of_lt (show a<2^8 by omega),Nat.mod_eq_of_lt (show b<2^8 by omega)]
theorem law06_ZlibHeads (σ:Mem) (l:List AV) (_:σ.Ro) (hw:Wts PG σ Try.f5.params.toList l):ACalls PG n_law06_ZlibHeads l σ fun v _=>isTrue v:=by
 rw [show Try.f5.params.toList=[5,5] from by rw [Try.params5]] at hw
 obtain ⟨a,r,rfl,wa,hw⟩:=hw.int (k:=.u8) (by kernel_rfl)
 obtain ⟨b,r,rfl,wb,hw⟩:=hw.int (k:=.u8) (by kernel_rfl)
 obtain rfl:=hw.nil_inv
 obtain ⟨a,rfl,ha⟩:=byte_nat (wf_u8 wa)
 obtain ⟨b,rfl,hb⟩:=byte_nat (wf_u8 wb)
 refine ok_law06_ZlibHeads fun live=>?_
 unfold F_law06_ZlibHeads
 refine To.go ?_
 refine bstr_bl (l:=[UInt8.ofNat a,UInt8.ofNat b]) (by rw [gS',bl_two ha hb]) rfl ?_
 rw [show (⟨[UInt8.ofNat a,UInt8.ofNat b].toArray⟩:ByteArray)=two a b from rfl]
 refine callW_of (zlib_Unwrap (s:=two a b) (most:=9) (F:=60) (by show (2:Nat)<=2^40;decide) (by decide) (by show 8*2<60;decide)) ?_
 rintro _ σ1 ⟨rfl,s1⟩
 rw [unz_heads ha hb]
 refine tpS_of rfl ?_
 refine tpI_of rfl ?_
 have awk:∀ (σ':Mem),callW PG n_law06_awake [] σ' fun v σ4=>castB v fun v5=>(fun v _=>isTrue v) (AV.bool v5) σ4:=by
  intro σ'
  refine callW_of (law06_awake _) ?_
  rintro _ σ2 ⟨rfl,_⟩
  exact rfl
 have fin:∀ (u:Bool) (σ':Mem),u=decide (headOk a b)->F_law06_ZlibHeads_j1 (fun v _=>isTrue v) (if headOk a b then 3 else 16) u σ':=by
  rintro u σ' rfl
  unfold F_law06_ZlibHeads_j1
  by_cases h:headOk a b
  · rw [decide_eq_true h,if_pos h]
    refine ifT (p:=True) trivial ?_
    refine ifT rfl ?_
    exact awk _
  · rw [decide_eq_false h,if_neg h]
    refine ifF (p:=False) id ?_
    refine ifT (p:=True) trivial ?_
    refine ifT rfl ?_
    exact awk _
 have no:¬ headOk a b->∀ σ',F_law06_ZlibHeads_j1 (fun v _=>isTrue v) (if headOk a b then 3 else 16) false σ':=fun h σ'=>fin false σ' (decide_eq_false h).symm
 refine joinI ?_
 refine remN (m:=16) (by decide) ?_
 refine ifD (fun h8=>?_) (fun h8=>no (fun h=>by have:=h.1;omega) _)
 have q16:∀ {n m:Nat} {K:Int->Prop},n<256->1<m->K ((n / m:Nat):Int)->quoW .u8 (n:Nat) (m:Nat) K:=by
  intro n m K hn hm hk
  refine ⟨by omega,?_⟩
  have:n / m<=n:=Nat.div_le_self _ _
  rw [show Int.tdiv (n:Nat) (m:Nat)=((n / m:Nat):Int) from (Int.ofNat_tdiv n m).symm,wrap8,Nat.mod_eq_of_lt (by omega)]
  exact hk
 refine q16 (m:=16) ha (by decide) ?_
 refine ifD (fun h7=>?_) (fun h7=>no (fun h=>by have:=h.2.1;omega) _)
 refine iW_of (by omega) ?_
 refine iW_of (by omega) ?_
 refine iW_of (by omega) ?_
 refine iW_of (by omega) ?_
 rw [show 256*((a:Nat):Int)+((b:Nat):Int)=((256*a+b:Nat):Int) from by omega]
 refine remN (m:=31) (by decide) ?_
 refine ifD (fun h31=>?_) (fun h31=>no (fun h=>by have:=h.2.2.1;omega) _)
 refine q16 (m:=32) hb (by decide) ?_
 refine remN (m:=2) (by decide) ?_
 refine fin _ _ ?_
 apply decide_eq_decide.2
 constructor
 · intro h
   exact ⟨by omega,by omega,by omega,by omega⟩
 · intro h
   have:=h.2.2.2
   omega
end Go.Vit
