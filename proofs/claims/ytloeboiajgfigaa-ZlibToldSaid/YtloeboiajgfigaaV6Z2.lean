/- The laws ZlibHeads, ZlibBack, ZlibTold. -/
import Derived.Test.YtloeboiajgfigaaV6Z1
set_option linter.unusedVariables false
set_option linter.unusedSimpArgs false
set_option linter.unusedSimpArgs false
set_option maxRecDepth 20000
set_option maxRecDepth 20000
namespace Go.Vit
open Go.Proofs
theorem byteAt_right (s t:ByteArray) (i:Nat):byteAt (s++t) (s.size+i)=byteAt t i:=by
 unfold byteAt
 rw [bytesL_append,List.getElem?_append_right (by rw [bytesL_length];omega),bytesL_length,Nat.add_sub_cancel_left]
theorem app_drop (s t:ByteArray):(s++t).extract s.size (s++t).size=t:=by
 have h:=size_append s t
 refine bytes_ext ?_ fun i hi=>?_
 · rw [size_extract];omega
 · rw [size_extract] at hi
   rw [byteAt_extract _ _ _ _ (by omega),byteAt_right]
theorem app_take (s t:ByteArray):(s++t).extract 0 s.size=s:=by
 have h:=size_append s t
 refine bytes_ext ?_ fun i hi=>?_
 · rw [size_extract];omega
 · rw [size_extract] at hi
   rw [byteAt_extract _ _ _ _ (by omega),Nat.zero_add,byteAt_append _ (by omega)]
theorem zhd_size:zhd.size=2:=rfl
theorem unz_of {s z:ByteArray} (bz:Back s z):∃ K,∀ F S t,K<=F->S.size=4->unz (s.size:Nat) F (zhd++z++S++t)=if S≠sum4 s then (⟨#[]⟩,17) else if 0<t.size then (⟨#[]⟩,4) else (s,0):=by
 obtain ⟨_,K,h⟩:=bz
 refine ⟨K,fun F S t hF hS=>?_⟩
 obtain ⟨q,hq,hq8⟩:=h F (S++t) hF
 have e:zhd++z++S++t=zhd++(z++(S++t)):=by rw [ByteArray.append_assoc,ByteArray.append_assoc]
 have e2:zhd++z++S++t=(zhd++z)++(S++t):=by rw [ByteArray.append_assoc]
 have z1:=size_append S t
 have z2:=size_append z (S++t)
 have z3:=size_append zhd (z++(S++t))
 have z4:=size_append zhd z
 rw [zhd_size] at z3 z4
 have hx:(zhd++(z++(S++t))).extract 2 (zhd++(z++(S++t))).size=z++(S++t):=app_drop zhd _
 have hf:(zhd++(z++(S++t))).extract (2+z.size) (2+z.size+4)=S:=by
  rw [<- extract_extract2 _ (by omega),<- e,e2,<- z4,app_drop,<- hS,app_take]
 have h0:byteAt (zhd++(z++(S++t))) 0=120:=by rw [byteAt_append _ (by rw [zhd_size];decide)];rfl
 have h1:byteAt (zhd++(z++(S++t))) 1=1:=by rw [byteAt_append _ (by rw [zhd_size];decide)];rfl
 rw [e]
 unfold unz
 rw [if_neg (by omega),h0,h1,if_neg (by decide),hx,hq]
 dsimp only
 rw [hq8,if_neg (by omega),hf,show (⟨(bytesL s).toArray⟩:ByteArray)=s from mk_bytesL s]
 by_cases hs:S≠sum4 s
 · rw [if_pos hs,if_pos hs]
 · rw [if_neg hs,if_neg hs]
   by_cases ht:0<t.size
   · rw [if_pos ht,if_pos (by omega)]
   · rw [if_neg ht,if_neg (by omega)]
theorem byte_nat {n:Int} (h:0<=n/\n<=255):∃ a:Nat,n=a/\a<256:=⟨n.toNat,by omega,by omega⟩
theorem fold_front {L D:List Int}:∀ (l:List Tok) (p:Nat×Nat),p.2<=(l.foldl (layTok L D) p).2
 | [],_=>Nat.le_refl _
 | t::l,p=>by
   refine Nat.le_trans ?_ (fold_front l _)
   unfold layTok
   split
   · exact (layS_front _ _ _).1
   · exact Nat.le_trans (Nat.le_trans (Nat.le_trans (layS_front _ _ _).1 (lay_front _ _ _).1) (layS_front _ _ _).1) (lay_front _ _ _).1
theorem fixed_ge (l:List Tok):10<=(fixedP l).2:=by
 have h1:=fold_front (L:=fixL) (D:=fixD) l (laP (0,0) 3 3)
 rw [show (laP (0,0) 3 3).2=3 from rfl] at h1
 unfold fixedP layToks
 obtain ⟨q,hq⟩:∃ q,l.foldl (layTok fixL fixD) (laP (0,0) 3 3)=q:=⟨_,rfl⟩
 rw [hq] at h1 ⊢
 have h:(layS fixL q 256).2=q.2+7:=by
  unfold layS
  have h256:hasS fixL 256:=fixL_has ⟨256,by decide⟩
  rw [if_pos h256,layC_len,show (fixL.getD (256:Int).toNat 0).toNat=7 from by decide +kernel]
 rw [h];omega
theorem dyn_ge2 (l:List Tok):17<=(dynP l).2:=by
 have hS:lens (smaL l):=(chk_room (smaL_chk l)).1
 have h1:=fold3_two (ordL l) (dynHead (litL l) (farL l) (ordL l))
 rw [dynHead_two] at h1
 have h2:=runs_ge hS (runL l) (fold3 (ordL l) (dynHead (litL l) (farL l) (ordL l)))
 have h3:=fold_front (L:=litL l) (D:=farL l) l ((runL l).foldl (layRun (smaL l)) (fold3 (ordL l) (dynHead (litL l) (farL l) (ordL l))))
 have h4:=(layS_front (litL l) (l.foldl (layTok (litL l) (farL l)) ((runL l).foldl (layRun (smaL l)) (fold3 (ordL l) (dynHead (litL l) (farL l) (ordL l))))) 256).1
 unfold dynP layToks
 omega
theorem best_ge {s:ByteArray} {k:Nat} (hs:s.size<=20000):2<=(best3 s k).size:=by
 refine best2_cases (P:=fun x=>2<=x.size) (best2_cases (P:=fun x=>2<=x.size) ?_ ?_) ?_
 · have:=(back_stored hs).2
   show 2<=(text _ _).size
   omega
 · show 2<=(text _ _).size
   rw [size_text]
   have:=fixed_ge (toks s k)
   omega
 · show 2<=(text _ _).size
   rw [size_text]
   have:=dyn_ge2 (toks s k)
   omega
theorem zwrap_size (s:ByteArray) (k:Nat):(zwrap s k).size=2+(best3 s k).size+4:=by
 have h1:=size_append (zhd++best3 s k) (sum4 s)
 have h2:=size_append zhd (best3 s k)
 have h4:(sum4 s).size=4:=rfl
 rw [zhd_size] at h2
 unfold zwrap
 omega
theorem rem_pos {x m:Int} {K:Int->Prop} (hx : -9223372036854775808<=x/\x<=9223372036854775807) (hm:0<m/\m<=2^60) (hk:∀ n:Nat,(n:Int)<m->K n):remW x m fun a=>iW (a+m) fun b=>remW b m K:=by
 have h1 : -m<x.tmod m:=by
  have:=Int.lt_tmod_of_pos x hm.1
  exact this
 have h2:x.tmod m<m:=Int.tmod_lt_of_pos x hm.1
 refine ⟨by omega,?_⟩
 refine iW_of (by omega) ?_
 refine ⟨by omega,?_⟩
 have h3:0<=(x.tmod m+m).tmod m:=Int.tmod_nonneg _ (by omega)
 have h4:(x.tmod m+m).tmod m<m:=Int.tmod_lt_of_pos _ hm.1
 obtain ⟨n,hn⟩:=int_nat h3
 rw [hn]
 exact hk n (by omega)
end Go.Vit
