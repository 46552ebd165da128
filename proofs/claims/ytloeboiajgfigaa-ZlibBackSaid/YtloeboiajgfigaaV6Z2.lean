/- The laws ZlibHeads, ZlibBack, ZlibTold. -/
import Derived.Test.YtloeboiajgfigaaV6Z1
set_option linter.unusedVariables false
set_option linter.unusedSimpArgs false
set_option linter.unusedSimpArgs false
set_option maxRecDepth 20000
set_option maxRecDepth 20000
namespace Go.Vit
open Go.Proofs
theorem byteAt_right (s t:ByteArray) (i:Nat):byteAt (s++t) (s.size+i)=byteAt t i:=by
 unfold byteAt
 rw [bytesL_append,List.getElem?_append_right (by rw [bytesL_length];omega),bytesL_length,Nat.add_sub_cancel_left]
theorem app_drop (s t:ByteArray):(s++t).extract s.size (s++t).size=t:=by
 have h:=size_append s t
 refine bytes_ext ?_ fun i hi=>?_
 · rw [size_extract];omega
 · rw [size_extract] at hi
   rw [byteAt_extract _ _ _ _ (by omega),byteAt_right]
theorem app_take (s t:ByteArray):(s++t).extract 0 s.size=s:=by
 have h:=size_append s t
 refine bytes_ext ?_ fun i hi=>?_
 · rw [size_extract];omega
 · rw [size_extract] at hi
   rw [byteAt_extract _ _ _ _ (by omega),Nat.zero_add,byteAt_append _ (by omega)]
theorem zhd_size:zhd.size=2:=rfl
theorem unz_of {s z:ByteArray} (bz:Back s z):∃ K,∀ F S t,K<=F->S.size=4->unz (s.size:Nat) F (zhd++z++S++t)=if S≠sum4 s then (⟨#[]⟩,17) else if 0<t.size then (⟨#[]⟩,4) else (s,0):=by
 obtain ⟨_,K,h⟩:=bz
 refine ⟨K,fun F S t hF hS=>?_⟩
 obtain ⟨q,hq,hq8⟩:=h F (S++t) hF
 have e:zhd++z++S++t=zhd++(z++(S++t)):=by rw [ByteArray.append_assoc,ByteArray.append_assoc]
 have e2:zhd++z++S++t=(zhd++z)++(S++t):=by rw [ByteArray.append_assoc]
 have z1:=size_append S t
 have z2:=size_append z (S++t)
 have z3:=size_append zhd (z++(S++t))
 have z4:=size_append zhd z
 rw [zhd_size] at z3 z4
 have hx:(zhd++(z++(S++t))).extract 2 (zhd++(z++(S++t))).size=z++(S++t):=app_drop zhd _
 have hf:(zhd++(z++(S++t))).extract (2+z.size) (2+z.size+4)=S:=by
  rw [<- extract_extract2 _ (by omega),<- e,e2,<- z4,app_drop,<- hS,app_take]
 have h0:byteAt (zhd++(z++(S++t))) 0=120:=by rw [byteAt_append _ (by rw [zhd_size];decide)];rfl
 have h1:byteAt (zhd++(z++(S++t))) 1=1:=by rw [byteAt_append _ (by rw [zhd_size];decide)];rfl
 rw [e]
 unfold unz
 rw [if_neg (by omega),h0,h1,if_neg (by decide),hx,hq]
 dsimp only
 rw [hq8,if_neg (by omega),hf,show (⟨(bytesL s).toArray⟩:ByteArray)=s from mk_bytesL s]
 by_cases hs:S≠sum4 s
 · rw [if_pos hs,if_pos hs]
 · rw [if_neg hs,if_neg hs]
   by_cases ht:0<t.size
   · rw [if_pos ht,if_pos (by omega)]
   · rw [if_neg ht,if_neg (by omega)]
theorem unz_cut {s z S:ByteArray} (bz:Back s z) (hS:S.size=4):∃ K,∀ F n,K<=F->n<(zhd++z++S).size->unz (s.size:Nat) F ((zhd++z++S).extract 0 n)=(⟨#[]⟩,3):=by
 obtain ⟨_,K,h⟩:=bz
 refine ⟨K,fun F n hF hn=>?_⟩
 have e:zhd++z++S=zhd++(z++S):=ByteArray.append_assoc
 rw [e] at hn ⊢
 have z2:=size_append z S
 have z3:=size_append zhd (z++S)
 rw [zhd_size] at z3
 have zY:=size_extract (zhd++(z++S)) 0 n
 unfold unz
 by_cases h2:n<2
 · rw [if_pos (by omega)]
 · rw [if_neg (by omega)]
   have h0:byteAt ((zhd++(z++S)).extract 0 n) 0=120:=by rw [byteAt_extract _ _ _ _ (by omega),Nat.zero_add,byteAt_append _ (by rw [zhd_size];decide)];rfl
   have h1:byteAt ((zhd++(z++S)).extract 0 n) 1=1:=by rw [byteAt_extract _ _ _ _ (by omega),Nat.zero_add,byteAt_append _ (by rw [zhd_size];decide)];rfl
   rw [h0,h1,if_neg (by decide)]
   have hY:((zhd++(z++S)).extract 0 n).extract 2 ((zhd++(z++S)).extract 0 n).size=(z++S).extract 0 (n-2):=by
    refine bytes_ext ?_ fun i hi=>?_
    · simp only [size_extract];omega
    · simp only [size_extract] at hi
      rw [byteAt_extract _ _ _ _ (by omega),byteAt_extract _ _ _ _ (by omega),byteAt_extract _ _ _ _ (by omega),Nat.zero_add,Nat.zero_add,show 2+i=zhd.size+i from rfl,byteAt_right]
   rw [hY]
   by_cases hz:n-2<z.size
   · obtain ⟨q,hq,hq8⟩:=h F S hF
     rw [infl_cut hq (k:=n-2) (by omega) (by omega)]
   · have hW:(z++S).extract 0 (n-2)=z++S.extract 0 (n-2-z.size):=by
      have zW:=size_append z (S.extract 0 (n-2-z.size))
      have zE:=size_extract S 0 (n-2-z.size)
      refine bytes_ext ?_ fun i hi=>?_
      · rw [size_extract];omega
      · rw [size_extract] at hi
        rw [byteAt_extract _ _ _ _ (by omega),Nat.zero_add]
        rcases Nat.lt_or_ge i z.size with h' | h'
        · rw [byteAt_append _ h',byteAt_append _ h']
        · obtain ⟨j,rfl⟩:∃ j,i=z.size+j:=⟨i-z.size,by omega⟩
          rw [byteAt_right,byteAt_right,byteAt_extract _ _ _ _ (by omega),Nat.zero_add]
     obtain ⟨q,hq,hq8⟩:=h F (S.extract 0 (n-2-z.size)) hF
     rw [hW,hq]
     dsimp only
     rw [hq8,if_pos (by omega)]
theorem byte_nat {n:Int} (h:0<=n/\n<=255):∃ a:Nat,n=a/\a<256:=⟨n.toNat,by omega,by omega⟩
theorem fold_front {L D:List Int}:∀ (l:List Tok) (p:Nat×Nat),p.2<=(l.foldl (layTok L D) p).2
 | [],_=>Nat.le_refl _
 | t::l,p=>by
   refine Nat.le_trans ?_ (fold_front l _)
   unfold layTok
   split
   · exact (layS_front _ _ _).1
   · exact Nat.le_trans (Nat.le_trans (Nat.le_trans (layS_front _ _ _).1 (lay_front _ _ _).1) (layS_front _ _ _).1) (lay_front _ _ _).1
theorem fixed_ge (l:List Tok):10<=(fixedP l).2:=by
 have h1:=fold_front (L:=fixL) (D:=fixD) l (laP (0,0) 3 3)
 rw [show (laP (0,0) 3 3).2=3 from rfl] at h1
 unfold fixedP layToks
 obtain ⟨q,hq⟩:∃ q,l.foldl (layTok fixL fixD) (laP (0,0) 3 3)=q:=⟨_,rfl⟩
 rw [hq] at h1 ⊢
 have h:(layS fixL q 256).2=q.2+7:=by
  unfold layS
  have h256:hasS fixL 256:=fixL_has ⟨256,by decide⟩
  rw [if_pos h256,layC_len,show (fixL.getD (256:Int).toNat 0).toNat=7 from by decide +kernel]
 rw [h];omega
theorem dyn_ge2 (l:List Tok):17<=(dynP l).2:=by
 have hS:lens (smaL l):=(chk_room (smaL_chk l)).1
 have h1:=fold3_two (ordL l) (dynHead (litL l) (farL l) (ordL l))
 rw [dynHead_two] at h1
 have h2:=runs_ge hS (runL l) (fold3 (ordL l) (dynHead (litL l) (farL l) (ordL l)))
 have h3:=fold_front (L:=litL l) (D:=farL l) l ((runL l).foldl (layRun (smaL l)) (fold3 (ordL l) (dynHead (litL l) (farL l) (ordL l))))
 have h4:=(layS_front (litL l) (l.foldl (layTok (litL l) (farL l)) ((runL l).foldl (layRun (smaL l)) (fold3 (ordL l) (dynHead (litL l) (farL l) (ordL l))))) 256).1
 unfold dynP layToks
 omega
theorem best_ge {s:ByteArray} {k:Nat} (hs:s.size<=20000):2<=(best3 s k).size:=by
 refine best2_cases (P:=fun x=>2<=x.size) (best2_cases (P:=fun x=>2<=x.size) ?_ ?_) ?_
 · have:=(back_stored hs).2
   show 2<=(text _ _).size
   omega
 · show 2<=(text _ _).size
   rw [size_text]
   have:=fixed_ge (toks s k)
   omega
 · show 2<=(text _ _).size
   rw [size_text]
   have:=dyn_ge2 (toks s k)
   omega
theorem zwrap_size (s:ByteArray) (k:Nat):(zwrap s k).size=2+(best3 s k).size+4:=by
 have h1:=size_append (zhd++best3 s k) (sum4 s)
 have h2:=size_append zhd (best3 s k)
 have h4:(sum4 s).size=4:=rfl
 rw [zhd_size] at h2
 unfold zwrap
 omega
theorem rem_pos {x m:Int} {K:Int->Prop} (hx : -9223372036854775808<=x/\x<=9223372036854775807) (hm:0<m/\m<=2^60) (hk:∀ n:Nat,(n:Int)<m->K n):remW x m fun a=>iW (a+m) fun b=>remW b m K:=by
 have h1 : -m<x.tmod m:=by
  have:=Int.lt_tmod_of_pos x hm.1
  exact this
 have h2:x.tmod m<m:=Int.tmod_lt_of_pos x hm.1
 refine ⟨by omega,?_⟩
 refine iW_of (by omega) ?_
 refine ⟨by omega,?_⟩
 have h3:0<=(x.tmod m+m).tmod m:=Int.tmod_nonneg _ (by omega)
 have h4:(x.tmod m+m).tmod m<m:=Int.tmod_lt_of_pos _ hm.1
 obtain ⟨n,hn⟩:=int_nat h3
 rw [hn]
 exact hk n (by omega)
theorem law06_ZlibBack (σ:Mem) (l:List AV) (_:σ.Ro) (hw:Wts PG σ Try.f3.params.toList l):ACalls PG n_law06_ZlibBack l σ fun v _=>isTrue v:=by
 rw [show Try.f3.params.toList=[9,3,5] from by rw [Try.params3]] at hw
 obtain ⟨s,r,rfl,hs,hw⟩:=hw.str (by kernel_rfl)
 obtain ⟨less,r,rfl,hl,hw⟩:=hw.int (k:=.i64) (by kernel_rfl)
 obtain ⟨b,r,rfl,wb,hw⟩:=hw.int (k:=.u8) (by kernel_rfl)
 obtain rfl:=hw.nil_inv
 have hl:=wf_i64 hl
 unfold inI64 at hl
 obtain ⟨b,rfl,hb⟩:=byte_nat (wf_u8 wb)
 refine ok_law06_ZlibBack fun live=>?_
 unfold F_law06_ZlibBack
 have awk:∀ (σ':Mem),callW PG n_law06_awake [] σ' fun v σ4=>castB v fun v5=>(fun v _=>isTrue v) (AV.bool v5) σ4:=by
  intro σ'
  refine callW_of (law06_awake _) ?_
  rintro _ σ2 ⟨rfl,_⟩
  exact rfl
 refine ifD (fun h=>awk _) (fun h=>?_)
 refine callW_of (zlib_Wrap (s:=s) (by omega)) ?_
 rintro _ σ1 ⟨⟨k,hk,rfl⟩,s1⟩
 refine To.go ?_
 have bz:=back_best (s:=s) (by omega) hk
 have hz:=bz.1
 have hw:=zwrap_size s k
 obtain ⟨K1,h1⟩:=unz_of bz
 obtain ⟨K2,h2⟩:=unz_cut (S:=sum4 s) bz rfl
 have u0:∀ F,K1<=F->unz (s.size:Nat) F (zwrap s k)=(s,0):=by
  intro F hF
  have:=h1 F (sum4 s) ⟨#[]⟩ hF rfl
  rw [if_neg (not_not_intro rfl),if_neg (by decide)] at this
  have e:zhd++best3 s k++sum4 s++⟨#[]⟩=zwrap s k:=ByteArray.append_empty
  rw [e] at this
  exact this
 have u1:∀ F (u:UInt8),K1<=F->unz (s.size:Nat) F (zwrap s k++⟨#[u]⟩)=(⟨#[]⟩,4):=by
  intro F u hF
  have:=h1 F (sum4 s) ⟨#[u]⟩ hF rfl
  rw [if_neg (not_not_intro rfl),if_pos (show 0<(⟨#[u]⟩:ByteArray).size from Nat.zero_lt_one)] at this
  exact this
 have u2:∀ F n,K2<=F->n<(zwrap s k).size->unz (s.size:Nat) F ((zwrap s k).extract 0 n)=(⟨#[]⟩,3):=h2
 obtain ⟨z,hze⟩:∃ z,zwrap s k=z:=⟨_,rfl⟩
 rw [hze] at hw u0 u1 u2 ⊢
 clear h1 h2
 refine callW_of (zlib_Unwrap (s:=z) (most:=(s.size:Nat)) (F:=8*z.size+1+K1) (by omega) (by omega) (by omega)) ?_
 rintro _ σ2 ⟨rfl,s2⟩
 rw [u0 _ (by omega)]
 refine tpS_of rfl ?_
 refine tpI_of rfl ?_
 refine To.go ?_
 refine bstr_bl (l:=[UInt8.ofNat b]) ?_ rfl ?_
 · rw [gS']
   unfold bl
   simp only [List.map_cons,List.map_nil,UInt8.toNat_ofNat']
   rw [Nat.mod_eq_of_lt (show b<2^8 by omega)]
 rw [show (⟨[UInt8.ofNat b].toArray⟩:ByteArray)=⟨#[UInt8.ofNat b]⟩ from rfl]
 have hza:=size_append z ⟨#[UInt8.ofNat b]⟩
 have h1:(⟨#[UInt8.ofNat b]⟩:ByteArray).size=1:=rfl
 refine And.intro (by omega) ?_
 refine callW_of (zlib_Unwrap (s:=z++⟨#[UInt8.ofNat b]⟩) (most:=(s.size:Nat)) (F:=8*(z++⟨#[UInt8.ofNat b]⟩:ByteArray).size+1+K1) (by omega) (by omega) (by omega)) ?_
 rintro _ σ3 ⟨rfl,s3⟩
 rw [u1 _ _ (by omega)]
 refine tpS_of rfl ?_
 refine tpI_of rfl ?_
 refine ifF (not_not_intro rfl) ?_
 refine ifF (not_not_intro rfl) ?_
 refine ifF (not_not_intro rfl) ?_
 refine ifF ?_ ?_
 · have:=best_ge (s:=s) (k:=k) (by omega);omega
 refine rem_pos (by omega) (by omega) fun n hn=>?_
 refine And.intro (by omega) ?_
 rw [show Int.toNat 0=0 from rfl,Int.toNat_natCast]
 have hzx:=size_extract z 0 n
 refine callW_of (zlib_Unwrap (s:=z.extract 0 n) (most:=(s.size:Nat)) (F:=8*(z.extract 0 n).size+1+K2) (by omega) (by omega) (by omega)) ?_
 rintro _ σ4 ⟨rfl,s4⟩
 rw [u2 _ _ (by omega) (by omega)]
 refine tpS_of rfl ?_
 refine tpI_of rfl ?_
 refine ifT rfl ?_
 exact awk _
end Go.Vit
