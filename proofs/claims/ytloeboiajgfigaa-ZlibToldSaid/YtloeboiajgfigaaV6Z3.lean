/- The law ZlibTold. -/
import Derived.Test.YtloeboiajgfigaaV6Z2
set_option linter.unusedVariables false
set_option linter.unusedSimpArgs false
set_option linter.unusedSimpArgs false
set_option maxRecDepth 20000
set_option maxRecDepth 20000
namespace Go.Vit
open Go.Proofs
theorem xor_other {x y:Nat} (hy:y≠0):x ^^^ y≠x:=by
 intro h
 have e:x ^^^ (x ^^^ y)=y:=by rw [<- Nat.xor_assoc,Nat.xor_self,Nat.zero_xor]
 rw [h,Nat.xor_self] at e
 exact hy e.symm
theorem told_set {s z:ByteArray} {m:Nat} {u:UInt8} (hm:m<4) (hu:u≠(sumL s)[m]'hm):∃ S:ByteArray,S.size=4/\S≠sum4 s/\(⟨((bytesL (zhd++z++sum4 s)).set ((zhd++z).size+m) u).toArray⟩:ByteArray)=zhd++z++S++⟨#[]⟩:=by
 refine ⟨⟨((sumL s).set m u).toArray⟩,?_,fun h=>?_,?_⟩
 · rw [size_mk,List.length_set];rfl
 · have h2:(sumL s).set m u=sumL s:=by
    have h3:=congrArg bytesL h
    exact h3
   have h4:((sumL s).set m u)[m]? = (sumL s)[m]? := by rw [h2]
   rw [List.getElem?_set_self (by exact hm),List.getElem?_eq_getElem (by exact hm)] at h4
   injection h4 with h4
   exact hu h4
 · rw [show zhd++z++⟨((sumL s).set m u).toArray⟩++(⟨#[]⟩:ByteArray)=zhd++z++⟨((sumL s).set m u).toArray⟩ from ByteArray.append_empty,bytesL_append,List.set_append_right _ _ (by rw [bytesL_length];omega),bytesL_length,Nat.add_sub_cancel_left]
   rw [<- mk_bytesL (zhd++z++⟨((sumL s).set m u).toArray⟩),bytesL_append]
   rfl
theorem law06_ZlibTold (σ:Mem) (l:List AV) (_:σ.Ro) (hw:Wts PG σ Try.f4.params.toList l):ACalls PG n_law06_ZlibTold l σ fun v _=>isTrue v:=by
 rw [show Try.f4.params.toList=[9,3,5] from by rw [Try.params4]] at hw
 obtain ⟨s,r,rfl,hs,hw⟩:=hw.str (by kernel_rfl)
 obtain ⟨at',r,rfl,hl,hw⟩:=hw.int (k:=.i64) (by kernel_rfl)
 obtain ⟨b,r,rfl,wb,hw⟩:=hw.int (k:=.u8) (by kernel_rfl)
 obtain rfl:=hw.nil_inv
 have hl:=wf_i64 hl
 unfold inI64 at hl
 obtain ⟨b,rfl,hb⟩:=byte_nat (wf_u8 wb)
 refine ok_law06_ZlibTold fun live=>?_
 unfold F_law06_ZlibTold
 have awk:∀ (σ':Mem),callW PG n_law06_awake [] σ' fun v σ4=>castB v fun v5=>(fun v _=>isTrue v) (AV.bool v5) σ4:=by
  intro σ'
  refine callW_of (law06_awake _) ?_
  rintro _ σ2 ⟨rfl,_⟩
  exact rfl
 refine ifD (fun h=>awk _) (fun h=>?_)
 refine ifD (fun h=>awk _) (fun hb0=>?_)
 refine callW_of (zlib_Wrap (s:=s) (by omega)) ?_
 rintro _ σ1 ⟨⟨k,hk,rfl⟩,s1⟩
 have n1:=s1.next
 simp only [Mem.next_bump] at n1
 refine To.go ?_
 have bz:=back_best (s:=s) (by omega) hk
 have hz:=bz.1
 have hw:=zwrap_size s k
 have hg:=best_ge (s:=s) (k:=k) (by omega)
 obtain ⟨K1,h1⟩:=unz_of bz
 have hset:=fun (m:Nat) (u:UInt8) (hm:m<4) (hu:u≠(sumL s)[m]'hm)=>told_set (s:=s) (z:=best3 s k) hm hu
 have hzz:(zhd++best3 s k).size+4=(zwrap s k).size:=by
  have:=size_append zhd (best3 s k)
  rw [zhd_size] at this
  omega
 have hget:∀ m (hm:m<4),(bytesL (zwrap s k))[(zhd++best3 s k).size+m]'(by rw [bytesL_length];omega)=(sumL s)[m]'hm:=by
  intro m hm
  have e:bytesL (zwrap s k)=bytesL (zhd++best3 s k)++sumL s:=bytesL_append _ _
  have h2:(bytesL (zwrap s k))[(zhd++best3 s k).size+m]? = (sumL s)[m]? := by
   rw [e,List.getElem?_append_right (by rw [bytesL_length];omega),bytesL_length,Nat.add_sub_cancel_left]
  rw [List.getElem?_eq_getElem (by rw [bytesL_length];omega),List.getElem?_eq_getElem hm] at h2
  injection h2
 obtain ⟨p,hp⟩:∃ p,(zhd++best3 s k).size=p:=⟨_,rfl⟩
 rw [show zhd++best3 s k++sum4 s=zwrap s k from rfl] at hset
 rw [hp] at hset hzz
 simp only [hp] at hget
 obtain ⟨z,hze⟩:∃ z,zwrap s k=z:=⟨_,rfl⟩
 rw [hze] at hset hzz hw ⊢
 simp only [hze] at hget
 refine And.intro (by omega) ?_
 refine To.go ?_
 obtain ⟨c,hc⟩:∃ c,σ.next+10=c:=⟨_,rfl⟩
 obtain ⟨σ2,h2⟩:∃ σ2,σ2=σ1.put c (some (.rw (bytesOf z))):=⟨_,rfl⟩
 rw [hc,<- h2]
 have g2:σ2.get c=some (.rw (bl (bytesL z))):=by rw [h2,gS',bytesOf_bl]
 clear h2
 refine To.go ?_
 refine ifF (by omega) ?_
 refine To.go ?_
 refine iW_of (by omega) ?_
 refine rem_pos (x:=at') (m:=4) (by omega) (by decide) fun j hj=>?_
 refine iW_of (by omega) ?_
 obtain ⟨m,hm⟩:∃ m:Nat,m=3-j:=⟨_,rfl⟩
 have hm4:m<4:=by omega
 have hidx:((z.size:Nat):Int)-1-((j:Nat):Int)=((p+m:Nat):Int):=by omega
 rw [hidx]
 have hbl:p+m<(bytesL z).length:=by rw [bytesL_length];omega
 refine And.intro (show (0:Int)<=((p+m:Nat):Int)/\((p+m:Nat):Int)<((z.size:Nat):Int) by omega) ?_
 rw [Int.toNat_natCast,Nat.zero_add,Nat.mul_one]
 refine ldq (σ:=σ2.bump 22) (K:=fun a=>castI .u8 a _) g2 (by rw [show Blk.cellsR (.rw (bl (bytesL z)))=some (bl (bytesL z)) from rfl,Option.bind_some,bl_get hbl]) ?_
 refine To.go ?_
 have hcc:((bytesL z)[p+m]).toNat<256:=UInt8.toNat_lt _
 obtain ⟨y,hy,hy2⟩:∃ y,((bytesL z)[p+m]).toNat ^^^ b=y/\y<256:=⟨_,rfl,Nat.xor_lt_two_pow (n:=8) hcc (by omega)⟩
 dsimp only [letW]
 rw [bitsX8 hcc (by omega),hy,show y=(UInt8.ofNat y).toNat from by rw [UInt8.toNat_ofNat'];omega]
 refine And.intro (show (0:Int)<=((p+m:Nat):Int)/\((p+m:Nat):Int)<((z.size:Nat):Int) by omega) ?_
 rw [Int.toNat_natCast,Nat.zero_add,Nat.mul_one]
 refine st1 (σ:=σ2.bump 22) g2 (by rw [bl_length];exact hbl) rfl ?_
 rw [bl_set]
 refine bstr_bl (l:=(bytesL z).set (p+m) (UInt8.ofNat y)) (gB gS') (by rw [List.length_set,bytesL_length]) ?_
 have hu:UInt8.ofNat y≠(sumL s)[m]'hm4:=by
  intro e
  have e2:=congrArg UInt8.toNat e
  rw [<- hget m hm4,UInt8.toNat_ofNat',Nat.mod_eq_of_lt (show y<2^8 by omega),<- hy] at e2
  exact xor_other (by omega) e2
 obtain ⟨S,hS4,hSn,hSe⟩:=hset m (UInt8.ofNat y) hm4 hu
 have hsz:(⟨((bytesL z).set (p+m) (UInt8.ofNat y)).toArray⟩:ByteArray).size=z.size:=by rw [size_mk,List.length_set,bytesL_length]
 have hun:∀ F,K1<=F->unz (s.size:Nat) F ⟨((bytesL z).set (p+m) (UInt8.ofNat y)).toArray⟩=(⟨#[]⟩,17):=by
  intro F hF
  rw [hSe,h1 F S ⟨#[]⟩ hF hS4,if_pos hSn]
 obtain ⟨X,hX⟩:∃ X:ByteArray,(⟨((bytesL z).set (p+m) (UInt8.ofNat y)).toArray⟩:ByteArray)=X:=⟨_,rfl⟩
 rw [hX] at hun hsz ⊢
 refine callW_of (zlib_Unwrap (s:=X) (most:=(s.size:Nat)) (F:=8*X.size+1+K1) (by omega) (by omega) (by omega)) ?_
 rintro _ σ4 ⟨rfl,s4⟩
 rw [hun _ (by omega)]
 refine tpS_of rfl ?_
 refine tpI_of rfl ?_
 refine ifT rfl ?_
 exact awk _
end Go.Vit
