/- Tokens (as in the first seat) -/
import Derived.Test.YtloeboiajgfigaaGreatV7C
import Derived.Test.YtloeboiajgfigaaGreatVm2
import Derived.Test.YtloeboiajgfigaaGreatVm3
set_option linter.unusedVariables false
set_option linter.unusedSimpArgs false
set_option maxRecDepth 20000
namespace Go.Vit
open Go.Proofs
section
def tks (s:ByteArray) (k:Nat):List AV:=(toks s k).flatMap zlh
theorem zjb (s:ByteArray) (k:Nat):tks s (k+1)=tks s k++zlh (zoN s k):=by simp [tks,zmt]
end
section
def tkl (l:List Tok):List AV:=l.flatMap zlh
theorem zoO (l:List Tok):(tkl l).length=l.length*3:=by unfold tkl;rw [z7v zk7]
theorem zp9 {σ:Mem} {b i:Nat} {l:List Tok} {K:AV->Prop} (h:∃ q,σ.get b=some q/\q.cellsR=some (tkl l)) (hi:i<l.length) (hk:K (.agg (zlh l[i]))):z5x 3 σ (.ptr b (i*3)) K:=by
 refine zq0 h ?_ ?_
 · rw [zoO];omega
 · unfold tkl;rw [z77 zk7 hi];exact hk
def poss (s:ByteArray) (at':Nat) (k:ByteArray):List Nat:=(List.range at').filter λj=>decide (j+3<=s.size/\tri s j=k)
theorem zlr {s:ByteArray} {j:Nat} (h:j+3<=s.size) (k:ByteArray):poss s (j+1) k=if k=tri s j then poss s j k++[j] else poss s j k:=by
 unfold poss
 rw [List.range_succ,List.filter_append]
 by_cases hk:tri s j=k
 · rw [if_pos hk.symm];simp [hk,h]
 · rw [if_neg λe=>hk e.symm];simp [hk]
theorem zlE {s:ByteArray} {j:Nat} (h:s.size<j+3) (k:ByteArray):poss s (j+1) k=poss s j k:=by
 unfold poss
 rw [List.range_succ,List.filter_append]
 simp [show ¬ (j+3<=s.size) from by omega]
theorem zh6 {s:ByteArray} {j:Nat} (h:s.size<j+3) (k:ByteArray):∀ n,poss s (j+n) k=poss s j k
 | 0=>rfl
 | n+1=>by rw [<- Nat.add_assoc,zlE (by omega),zh6 h k n]
theorem zjm (s:ByteArray) (at':Nat) (k:ByteArray):(poss s at' k).length<=at':=by
 unfold poss
 exact Nat.le_trans (List.length_filter_le _ _) (by simp)
def il (l:List Nat):List AV:=l.map λj=>.int .i64 (j:Nat)
theorem zq2 (l:List Nat):(il l).all AV.one=true:=by
 rw [List.all_eq_true]
 intro x hx
 simp only [il,List.mem_map] at hx
 obtain ⟨b,_,rfl⟩:=hx
 rfl
structure Seen (s:ByteArray) (σ:Mem) (c m:Nat) (f:ByteArray->AV) (at':Nat):Prop where
 cell:σ.get c=some (.rw [.map m])
 mp:∃ l n,σ.get m=some (.map (zis l) n)/\∀ k:ByteArray,(look l k).getD .nils=f k
 own:∀ k,z1Q 1 σ (f k) (il (poss s at' k)) (poss s at' k).length
 lt:∀ k,∀ b∈z3 (f k),b<σ.next/\b≠m/\b≠c
 apart:∀ k k',k≠k'->∀ b∈z3 (f k),b ∉ z3 (f k')
 ne:c≠m/\c<σ.next/\m<σ.next
structure Touch (σ σ':Mem) (m:Nat) (f f':ByteArray->AV):Prop where
 next:σ.next<=σ'.next
 get:∀ b<σ.next,b≠m->(∀ k,b ∉ z3 (f k))->σ'.get b=σ.get b
 new:∀ k,∀ b∈z3 (f' k),(∃ k',b∈z3 (f k'))\/σ.next<=b
theorem Seen.same {s:ByteArray} {σ σ':Mem} {c m at':Nat} {f:ByteArray->AV} (h:Seen s σ c m f at') (s':σ.Same σ'):Seen s σ' c m f at':=by
 obtain ⟨h1,⟨l,n,h2,h3⟩,h4,h5,h6,h7⟩:=h
 exact ⟨s'.keep h1 h7.2.1,⟨l,n,s'.keep h2 h7.2.2,h3⟩,λk=>(h4 k).keep λb hb=>s'.get b (h5 k b hb).1,λk b hb=>⟨Nat.lt_of_lt_of_le (h5 k b hb).1 s'.next,(h5 k b hb).2⟩,h6,h7.1,Nat.lt_of_lt_of_le h7.2.1 s'.next,Nat.lt_of_lt_of_le h7.2.2 s'.next⟩
theorem Touch.refl (σ:Mem) (m:Nat) (f:ByteArray->AV):Touch σ σ m f f:=⟨Nat.le_refl _,λ_ _ _ _=>rfl,λk b hb=>.inl ⟨k,hb⟩⟩
theorem Touch.trans {σ σ' σ'':Mem} {m:Nat} {f f' f'':ByteArray->AV} (h:Touch σ σ' m f f') (h':Touch σ' σ'' m f' f''):Touch σ σ'' m f f'':=by
 refine ⟨Nat.le_trans h.next h'.next,λb hb hm hf=>?_,λk b hb=>?_⟩
 · refine (h'.get b (Nat.lt_of_lt_of_le hb h.next) hm λk hk=>?_).trans (h.get b hb hm hf)
   rcases h.new k b hk with ⟨k',h1⟩ | h1
   · exact hf k' h1
   · omega
 · rcases h'.new k b hb with ⟨k',h1⟩ | h1
   · exact h.new k' b h1
   · exact .inr (Nat.le_trans h.next h1)
theorem Touch.same {σ σ' σ'':Mem} {m:Nat} {f f':ByteArray->AV} (h:Touch σ σ' m f f') (s:σ'.Same σ'') (hm:m<σ'.next):Touch σ σ'' m f f':=
 ⟨Nat.le_trans h.next s.next,λb hb hm hf=>(s.get b (Nat.lt_of_lt_of_le hb h.next)).trans (h.get b hb hm hf),h.new⟩
theorem zoL {s:ByteArray} {σ:Mem} {p c m i n:Nat} {f:ByteArray->AV} (hs:s.size<=20000) (hp:σ.get p=some (.rw [.str s])) (hpm:p≠m/\∀ k,p ∉ z3 (f k)) (h:Seen s σ c m f i) (hi:i+n<=s.size) :
 z1 PG z3W [.int .i64 i,.int .i64 n,.ptr p 0,.ptr c 0] σ λr σ'=>r=.tup []/\∃ f',Seen s σ' c m f' (i+n)/\Touch σ σ' m f f':=by
 refine zeA λlive=>?_
 unfold zbu
 have hpn:=live.lt hp
 refine join0 (λσ'=>∃ f',Seen s σ' c m f' (i+n)/\Touch σ σ' m f f') ?_ ?_
 · refine loop1 (λ(j:Nat) (x:Int) σ'=>x=j/\i<=j/\j<=i+n/\∃ f',Seen s σ' c m f' j/\Touch σ σ' m f f') (λj=>i+n-j) i ⟨rfl,by omega,by omega,f,h.same ((Mem.Same.refl σ).bump 2),(Touch.refl σ m f).same ((Mem.Same.refl σ).bump 2) h.ne.2.2⟩ ?_
   rintro j _ σ1 ⟨rfl,hij,hj,f1,S,T⟩
   unfold z88
   have hfin:∀ {k},(s.size<j+3\/j=i+n)->∃ f',Seen s (σ1.bump k) c m f' (i+n)/\Touch σ (σ1.bump k) m f f':=λ{k} hd=>by
    refine ⟨f1,?_,T.same ((Mem.Same.refl σ1).bump k) S.ne.2.2⟩
    have S':=S.same ((Mem.Same.refl σ1).bump k)
    refine ⟨S'.cell,S'.mp,λk'=>?_,S'.lt,S'.apart,S'.ne⟩
    have e:poss s (i+n) k'=poss s j k':=by
     rcases hd with hd | rfl
     · rw [show i+n=j+(i+n-j) from by omega,zh6 hd]
     · rfl
    rw [e]
    exact S'.own k'
   repeat (first | refine To.go ?_ | with_reducible refine And.intro (by omega) ?_)
   refine ifD (λhlt=>?_) (λhge=>?_)
   · have hp1:σ1.get p=some (.rw [.str s]):=(T.get p hpn hpm.1 hpm.2).trans hp
     repeat (first | refine To.go ?_ | with_reducible refine And.intro (by omega) ?_ | ((with_reducible apply ldrw);(· ((simp (disch:=omega) only [go_sem, *];try rfl)));(· (rfl))))
     refine ifD (λh3=>?_) (λh3=>?_)
     · repeat (first | refine To.go ?_ | with_reducible refine And.intro (by omega) ?_ | ((with_reducible apply ldrw);(· ((simp (disch:=omega) only [go_sem, *];try rfl)));(· (rfl))))
       have hc:=S.cell
       repeat (((with_reducible apply ldrw);(· ((simp (disch:=omega) only [go_sem, *];try rfl)));(· (rfl))))
       obtain ⟨l,nn,hm,hl⟩:=S.mp
       rw [show s.extract (j:Int).toNat ((j:Int)+3).toNat=tri s j from by unfold tri;congr 1<;>omega]
       refine zhI (a:=tri s j) (l:=l) hm ?_
       rw [hl]
       repeat (refine To.go ?_)
       have hplen:=zjm s j (tri s j)
       refine z1Q.append (n:=(poss s j (tri s j)).length) (m:=1) (cs:=il (poss s j (tri s j))) ((S.own (tri s j)).keep λb hb=>?_) (λK hK=>z6R gS' rfl rfl K hK) (by omega) rfl rfl (zq2 _) (by omega) (λhb=>?_) ?_
       · have:=(S.lt _ b hb).1
         rw [Mem.get_put_ne _ (by omega)];rfl
       · have:=(S.lt _ _ hb).1;omega
       intro v' σ3 own3 hn3 hg3 hb3
       simp only [Mem.next_bump,Mem.next_put] at hn3
       have hne:=S.ne
       have hget:∀ b<σ1.next,b ∉ z3 (f1 (tri s j))->σ3.get b=σ1.get b:=λb hb hn=>by
        rw [hg3 b hn (by omega),Mem.get_put_ne _ (by omega)];rfl
       have hc3:=hget c hne.2.1 λhb=>(S.lt _ _ hb).2.2 rfl
       have hm3:=hget m hne.2.2 λhb=>(S.lt _ _ hb).2.1 rfl
       refine To.go ?_
       refine And.intro ?_ ?_
       · rw [hc3,Mem.get_put_ne _ (by omega)];rfl
       refine zoh (a:=tri s j) (l:=l) (hm3.trans hm) ?_
       intro l' c' hl'
       repeat (first | refine To.go ?_ | with_reducible refine And.intro (by omega) ?_)
       have hv'1:∀ b∈z3 v',b<σ3.next/\b≠m/\b≠c/\∀ k,k≠tri s j->b ∉ z3 (f1 k):=λb hb=>by
        rcases hb3 b hb with h | h
        · have:=S.lt _ b h
          exact ⟨by omega,this.2.1,this.2.2,λk hk hb'=>S.apart k _ hk b hb' h⟩
        · exact ⟨by omega,by omega,by omega,λk hk hb'=>by have:=(S.lt _ b hb').1;omega⟩
       refine again ⟨j+1,⟨by omega,by omega,by omega,λk=>if k=tri s j then v' else f1 k,⟨?_,⟨l',c',by rw [Mem.get_bump,gS'],λk=>?_⟩,λk=>?_,λk b hb=>?_,λk k' hk b hb hb'=>?_,?_⟩,T.trans ⟨?_,λb hb hbm hf=>?_,λk b hb=>?_⟩⟩,by omega⟩
       · rw [Mem.get_bump,Mem.get_put_ne _ hne.1,hc3];exact hc
       · rw [hl']
         split
         · rfl
         · exact hl k
       · rw [zlr (by omega)]
         by_cases hk:k=tri s j
         · rw [if_pos hk,if_pos hk,List.length_append,hk]
           rw [show il (poss s j (tri s j)++[j])=il (poss s j (tri s j))++[.int .i64 (j:Nat)] from by simp [il]]
           exact own3.keep λb hb=>by rw [Mem.get_bump,Mem.get_put_ne _ (hv'1 b hb).2.1]
         · rw [if_neg hk,if_neg hk]
           refine (S.own k).keep λb hb=>?_
           have h1:=S.lt k b hb
           rw [Mem.get_bump,Mem.get_put_ne _ h1.2.1,hget b h1.1 λhb'=>S.apart k _ hk b hb hb']
       · simp only [Mem.next_bump,Mem.next_put]
         by_cases hk:k=tri s j
         · rw [if_pos hk] at hb
           have:=hv'1 b hb
           exact ⟨by omega,this.2.1,this.2.2.1⟩
         · rw [if_neg hk] at hb
           have:=S.lt k b hb
           exact ⟨by omega,this.2.1,this.2.2⟩
       · by_cases h1:k=tri s j
         · rw [if_pos h1] at hb
           rw [if_neg λe=>hk (h1.trans e.symm)] at hb'
           exact (hv'1 b hb).2.2.2 k' (λe=>hk (h1.trans e.symm)) hb'
         · rw [if_neg h1] at hb
           by_cases h2:k'=tri s j
           · rw [if_pos h2] at hb'
             exact (hv'1 b hb').2.2.2 k h1 hb
           · rw [if_neg h2] at hb'
             exact S.apart k k' hk b hb hb'
       · simp only [Mem.next_bump,Mem.next_put];exact ⟨hne.1,by omega,by omega⟩
       · simp only [Mem.next_bump,Mem.next_put];omega
       · rw [Mem.get_bump,Mem.get_put_ne _ hbm,hget b hb (hf _)]
       · have hb:=hb
         by_cases hk:k=tri s j
         · rw [if_pos hk] at hb
           rcases hb3 b hb with h | h
           · exact .inl ⟨_,h⟩
           · exact .inr (by omega)
         · rw [if_neg hk] at hb
           exact .inl ⟨k,hb⟩
     · exact hfin (.inl (by omega))
   · exact hfin (.inr (by omega))
 · rintro σ1 h1
   exact ⟨rfl,h1⟩
end
section
/-! ### Which distances are looked at -/
theorem zji {s:ByteArray} {i a:Nat} {k:ByteArray}:a∈poss s i k↔a<i/\a+3<=s.size/\tri s a=k:=by
 unfold poss
 rw [List.mem_filter,List.mem_range,decide_eq_true_eq]
theorem zde (s:ByteArray) (i:Nat) (k:ByteArray):(poss s i k).Pairwise (·<·):=by
 unfold poss
 exact List.pairwise_lt_range.filter _
theorem zhN {l:List Nat} (h:l.Pairwise (·<·)) {i j:Nat} (hij:i<=j) (hj:j<l.length):l[i]<=l[j]:=by
 rcases Nat.eq_or_lt_of_le hij with rfl | hij
 · exact Nat.le_refl _
 · exact Nat.le_of_lt (List.pairwise_iff_getElem.1 h i j (by omega) hj hij)
def zby (i:Nat) (P:List Nat) (q:Nat):Nat:=match P[q]? with
 | none=>0
 | some a=>i-a
theorem zbl (i:Nat) (P:List Nat):zby i P P.length=0:=by unfold zby;rw [List.getElem?_eq_none (Nat.le_refl _)]
theorem zgp {i:Nat} {P:List Nat} {q:Nat} (h:q<P.length):zby i P q=i-P[q]:=by unfold zby;rw [List.getElem?_eq_getElem h]
theorem gap {s:ByteArray} {i q x:Nat} (hi:i+3<=s.size) (hq:q<=(poss s i (tri s i)).length) (h1:zby i (poss s i (tri s i)) q<x) (h2:x<=i) (h3:∀ a,q≠0->(poss s i (tri s i))[q-1]? = some a->x<i-a):ml s i x<3:=by
 refine Nat.lt_of_not_le λh=>?_
 rw [ml3 h2 hi] at h
 have hm:i-x∈poss s i (tri s i):=zji.2 ⟨by omega,by omega,h⟩
 obtain ⟨t,ht,hte⟩:=List.getElem_of_mem hm
 have hs:=zde s i (tri s i)
 rcases Nat.lt_or_ge t q with htq | htq
 · have h4:=zhN hs (show t<=q-1 by omega) (by omega)
   have h5:=h3 _ (by omega) (List.getElem?_eq_getElem (by omega))
   omega
 · have h4:=zhN hs htq ht
   rw [zgp (by omega)] at h1
   omega
theorem zp3 {s:ByteArray} {i q:Nat} (hi:i+3<=s.size) (hq:q<=(poss s i (tri s i)).length) (hd:zby i (poss s i (tri s i)) q<=min 512 i) (h3:∀ a,q≠0->(poss s i (tri s i))[q-1]? = some a->512<i-a):cut3 (best s i)=cut3 (rb s i (zby i (poss s i (tri s i)) q)):=
 zgc hd λx h1 h2=>gap hi hq h1 (by omega) λa h4 h5=>by have:=h3 a h4 h5;omega
/-! ### What holds in each round -/
structure LzI (s:ByteArray) (σ σ':Mem) (p c m:Nat) (v:AV) (f:ByteArray->AV) (k i:Nat):Prop where
 own:Own 3 σ σ' v (tks s k) k
 seen:Seen s σ' c m f i
 str:σ'.get p=some (.rw [.str s])
 pn:p<σ'.next/\p≠c/\p≠m/\σ.next<=p/\σ.next<=c/\σ.next<=m
 ap:∀ k,∀ b∈z3 (f k),σ.next<=b/\b≠p/\b ∉ z3 v
 av:∀ b∈z3 v,b≠p/\b≠c/\b≠m
 same:σ.Same σ'
theorem LzI.then {s:ByteArray} {σ σ1 σ2:Mem} {p c m k i:Nat} {v:AV} {f:ByteArray->AV} (h:LzI s σ σ1 p c m v f k i) (s':σ1.Same σ2):LzI s σ σ2 p c m v f k i:=
 ⟨h.own.same s',h.seen.same s',s'.keep h.str h.pn.1,⟨Nat.lt_of_lt_of_le h.pn.1 s'.next,h.pn.2⟩,h.ap,h.av,h.same.trans s'⟩
theorem Seen.only {s:ByteArray} {σ σ':Mem} {c m at':Nat} {f:ByteArray->AV} {l:List Nat} (h:Seen s σ c m f at') (o:Mem.Only l σ σ') (hc:c ∉ l) (hm:m ∉ l) (hf:∀ k,∀ b∈z3 (f k),b ∉ l):Seen s σ' c m f at':=by
 obtain ⟨h1,⟨l',n,h2,h3⟩,h4,h5,h6,h7⟩:=h
 exact ⟨o.keep h1 h7.2.1 hc,⟨l',n,o.keep h2 h7.2.2 hm,h3⟩,λk=>(h4 k).keep λb hb=>o.get b (h5 k b hb).1 (hf k b hb),λk b hb=>⟨Nat.lt_of_lt_of_le (h5 k b hb).1 o.next,(h5 k b hb).2⟩,h6,h7.1,Nat.lt_of_lt_of_le h7.2.1 o.next,Nat.lt_of_lt_of_le h7.2.2 o.next⟩
theorem LzI.next {s:ByteArray} {σ σ1 σ2:Mem} {p c m k i n id:Nat} {v v':AV} {f:ByteArray->AV} (hs:s.size<=20000) (h:LzI s σ σ1 p c m v f k i) (own:Own 3 σ σ2 v' (tks s (k+1)) (k+1)) (same:σ.Same σ2) (o:Mem.Only (z3 v) σ1 σ2) (hid:σ1.next<=id) (hb:∀ b∈z3 v',b∈z3 v\/b=id) (hi:i+n<=s.size) (j:Nat) :
 z1 PG z3W [.int .i64 i,.int .i64 n,.ptr p 0,.ptr c 0] (σ2.bump j) λr σ3=>r=.tup []/\∃ f',LzI s σ σ3 p c m v' f' (k+1) (i+n):=by
 have hsn:=h.seen.ne
 have hpn:=h.pn
 have seen2:=h.seen.only o (λhm=>(h.av _ hm).2.1 rfl) (λhm=>(h.av _ hm).2.2 rfl) (λk b hb=>(h.ap k b hb).2.2)
 have p2:=o.keep h.str hpn.1 λhm=>(h.av _ hm).1 rfl
 have hv':∀ b∈z3 v',b≠p/\b≠c/\b≠m/\∀ k,b ∉ z3 (f k):=λb hb'=>by
  rcases hb b hb' with h1 | rfl
  · have:=h.av b h1
    exact ⟨this.1,this.2.1,this.2.2,λk hk=>(h.ap k b hk).2.2 h1⟩
  · exact ⟨by omega,by omega,by omega,λk hk=>by have:=(h.seen.lt k _ hk).1;omega⟩
 refine (zoL (σ:=σ2.bump j) hs p2 ⟨hpn.2.2.1,λk hk=>(h.ap k _ hk).2.1 rfl⟩ (seen2.same ((Mem.Same.refl σ2).bump j)) hi).mono ?_
 rintro r σ3 ⟨rfl,f',S,T⟩
 have hn:=T.next
 simp only [Mem.next_bump] at hn
 have hon:=o.next
 have hT:∀ b<σ2.next,b≠m->(∀ k,b ∉ z3 (f k))->σ3.get b=σ2.get b:=λb h1 h2 h3=>T.get b (by rw [Mem.next_bump];omega) h2 h3
 have hnew:∀ k,∀ b∈z3 (f' k),(∃ k',b∈z3 (f k'))\/σ2.next<=b:=λk b hb=>by
  rcases T.new k b hb with h | h
  · exact .inl h
  · rw [Mem.next_bump] at h;exact .inr (by omega)
 refine ⟨rfl,f',⟨own.1.keep λb hb'=>hT b (own.2 b hb').2 (hv' b hb').2.2.1 (hv' b hb').2.2.2,λb hb'=>⟨(own.2 b hb').1,by have:=(own.2 b hb').2;omega⟩⟩,S,?_,⟨by omega,hpn.2⟩,λk b hb'=>?_,λb hb'=>⟨(hv' b hb').1,(hv' b hb').2.1,(hv' b hb').2.2.1⟩,⟨by have:=same.next;omega,λb hb'=>?_⟩⟩
 · rw [hT p (by omega) hpn.2.2.1 λk hk=>(h.ap k _ hk).2.1 rfl];exact p2
 · rcases hnew k b hb' with ⟨k',h1⟩ | h1
   · have h2:=h.ap k' b h1
     exact ⟨h2.1,h2.2.1,λh3=>(hv' b h3).2.2.2 k' h1⟩
   · have:=same.next
     exact ⟨by omega,by omega,λh3=>by have:=(own.2 b h3).2;omega⟩
 · have:=same.next
   rw [hT b (by omega) (by omega) λk hk=>by have:=(h.ap k b hk).1;omega]
   exact same.get b hb'
theorem zh5 (s:ByteArray) (hs:s.size<=20000) (σ:Mem) :
 z1 PG z7R [.str s] σ λv σ'=>∃ k,Done s k/\Own 3 σ σ' v (tks s k) k/\σ.Same σ':=by
 refine zhC λ_=>?_
 unfold zdE
 repeat (first | refine To.go ?_ | ((with_reducible apply st1);(· ((simp (disch:=omega) only [go_sem, *];try rfl)));(· simp);(· rfl)))
 simp only [Mem.next_put,Mem.next_bump]
 obtain ⟨p,hp⟩:∃ p,σ.next=p:=⟨_,rfl⟩
 obtain ⟨m,hm⟩:∃ m,σ.next+2+1=m:=⟨_,rfl⟩
 obtain ⟨c,hc⟩:∃ c,σ.next+2+2=c:=⟨_,rfl⟩
 have hc':c=m+1:=by omega
 have start:LzI s σ (((((((σ.bump 2).put p (some (.rw [.str s]))).bump 4).put m (some (.map [] 0))).put c (some (.rw [.nilm]))).put c (some (.rw ([.nilm].set 0 (.map m))))).bump 3) p c m .nils (λ_=>.nils) 0 0:=by
  refine ⟨.nil 3 _ _,⟨?_,⟨[],0,?_,λk=>rfl⟩,λk=>?_,λk b hb=>by simp [z3] at hb,λk k' _ b hb=>by simp [z3] at hb,?_⟩,?_,?_,λk b hb=>by simp [z3] at hb,λb hb=>by simp [z3] at hb,?_⟩
  · rw [Mem.get_bump,gS'];rfl
  · rw [Mem.get_bump,Mem.get_put_ne _ (by omega),Mem.get_put_ne _ (by omega),gS'];rfl
  · exact .nil 1 _
  · simp only [Mem.next_put,Mem.next_bump];omega
  · rw [Mem.get_bump,Mem.get_put_ne _ (by omega),Mem.get_put_ne _ (by omega),Mem.get_put_ne _ (by omega),Mem.get_bump,gS']
  · simp only [Mem.next_put,Mem.next_bump];omega
  · repeat (with_reducible first | exact Mem.Same.refl _ | refine Mem.Same.bump ?_ _ | refine Mem.Same.put ?_ (by omega) _)
 rw [hm,hc,hp]
 refine loop2 (λ(k:Nat) (v:AV) (i:Int) σ'=>i=pos s k/\(∀ j<k,pos s j<s.size)/\∃ f,LzI s σ σ' p c m v f k (pos s k)) (λk=>s.size-pos s k) 0 ⟨rfl,by simp,_,start⟩ ?_
 clear start hc'
 rintro k v _ σ1 ⟨rfl,hk,f,I⟩
 unfold z9W
 simp only [Mem.next_put,Mem.next_bump]
 rw [hc,hp]
 have hle:=zpY hk
 have hge:=zmZ hk
 obtain ⟨i,hi⟩:∃ i,pos s k=i:=⟨_,rfl⟩
 have htk:zoN s k=(tk s i).1:=by rw [<- hi];rfl
 have hpos:pos s (k+1)=(tk s i).2:=by rw [<- hi];rfl
 rw [hi] at hle hge I ⊢
 have hstr:=I.str
 repeat (first | refine To.go ?_ | ((with_reducible apply ldrw);(· ((simp (disch:=omega) only [go_sem, *];try rfl)));(· (rfl))))
 refine ifD (λhlt=>?_) (λhge=>?_)
 · have hlt':i<s.size:=by omega
   refine join2 (λ(v':AV) (i':Int) σ'=>i'=pos s (k+1)/\∃ f',LzI s σ σ' p c m v' f' (k+1) (pos s (k+1))) ?_ ?_
   · repeat (first | refine To.go ?_ | with_reducible refine And.intro (by omega) ?_ | ((with_reducible apply ldrw);(· ((simp (disch:=omega) only [go_sem, *];try rfl)));(· (rfl))))
     refine join2 (λ(b g:Int) σ'=>b=((cut3 (best s i)).1:Nat)/\g=((cut3 (best s i)).2:Nat)/\σ1.Same σ') ?_ ?_
     · refine ifD (λh3=>?_) (λh3=>?_)
       · have hcell:=I.seen.cell
         obtain ⟨l,nn,hmm,hl⟩:=I.seen.mp
         repeat (first | refine To.go ?_ | with_reducible refine And.intro (by omega) ?_ | ((with_reducible apply ldrw);(· ((simp (disch:=omega) only [go_sem, *];try rfl)));(· (rfl))))
         rw [show s.extract (i:Int).toNat ((i:Int)+3).toNat=tri s i from by unfold tri;congr 1<;>omega]
         refine zhI (a:=tri s i) (l:=l) hmm ?_
         rw [hl]
         have hi3:i+3<=s.size:=by omega
         have own:=I.seen.own (tri s i)
         have hlt:=I.seen.lt (tri s i)
         obtain ⟨P,hP⟩:∃ P,poss s i (tri s i)=P:=⟨_,rfl⟩
         have hPl:=zjm s i (tri s i)
         have hmem:∀ a∈P,a<i/\a+3<=s.size/\tri s a=tri s i:=λa ha=>zji.1 (hP ▸ ha)
         have hgap:=λq x=>gap (s:=s) (i:=i) (q:=q) (x:=x) hi3
         have hcut:=λq=>zp3 (s:=s) (i:=i) (q:=q) hi3
         rw [hP] at own hPl hgap hcut
         obtain ⟨u,hu⟩:∃ u,f (tri s i)=u:=⟨_,rfl⟩
         rw [hu] at own hlt ⊢
         refine own.len ?_
         repeat (first | refine To.go ?_ | with_reducible refine And.intro (by omega) ?_)
         refine join2 (λ(b g:Int) σ'=>b=((cut3 (best s i)).1:Nat)/\g=((cut3 (best s i)).2:Nat)/\σ1.Same σ') ?_ ?_
         · refine loop3 (λ(q:Nat) (b g x:Int) σ'=>x=(q:Int)-1/\q<=P.length/\zby i P q<=min 512 i/\b=((cut3 (rb s i (zby i P q))).1:Nat)/\g=((cut3 (rb s i (zby i P q))).2:Nat)/\σ1.Same σ') (λq=>q) P.length ⟨by omega,by omega,by rw [zbl];omega,by rw [zbl];rfl,by rw [zbl];rfl,(Mem.Same.refl σ1).bump _⟩ ?_
           rintro q b g _ σ2 ⟨rfl,hq,hD,hb,hg,s2⟩
           unfold z9x
           refine ifD (λh0=>?_) (λh0=>?_)
           · have hq1:q-1<P.length:=by omega
             have hPq:=List.getElem?_eq_getElem hq1
             obtain ⟨a,ha⟩:∃ a,P[q-1]=a:=⟨_,rfl⟩
             rw [ha] at hPq
             obtain ⟨hai,ha3,hat⟩:=hmem a (by rw [<- ha];exact List.getElem_mem hq1)
             obtain ⟨ub,rfl,hub,_⟩:=own.sl (by omega)
             have hub2:=s2.keep hub (hlt ub (by simp [z3])).1
             have hila:(il P)[q-1]? = some (.int .i64 (a:Nat)):=by simp [il,hPq]
             rw [show ((q:Int)-1)=((q-1:Nat):Int) from by omega]
             repeat (first | refine To.go ?_ | with_reducible refine And.intro (by omega) ?_ | ((with_reducible apply ldrw);(· ((simp (disch:=omega) only [go_sem, *];try rfl)));(· (with_reducible assumption))))
             have hst:=s2.keep hstr I.pn.1
             have hml3:3<=ml s i (i-a):=(ml3 (by omega) hi3).2 (by rw [show i-(i-a)=a from by omega];exact hat)
             have hmle:=zoV s i (i-a)
             have hfrom:=zo4 hml3
             refine ifD (λh512=>?_) (λh512=>?_)
             · have hD':zby i P (q-1)=i-a:=by rw [zgp hq1,ha]
               have hnear:=zlP (s:=s) (i:=i) (d:=i-a-1) (by rw [show i-a-1+1=i-a from by omega];exact hml3)
               have hfar:zby i P q<=i-a-1:=by
                rcases Nat.eq_or_lt_of_le hq with rfl | hq'
                · rw [zbl];omega
                · have:=zde s i (tri s i)
                  rw [hP] at this
                  have:=List.pairwise_iff_getElem.1 this (q-1) q hq1 hq' (by omega)
                  rw [zgp hq'];omega
               rw [zgc hfar λx h1 h2=>hgap q x hq h1 (by omega) λa' _ h5=>by rw [hPq] at h5;obtain rfl:=Option.some.inj h5;omega,show i-a-1+1=i-a from by omega] at hnear
               obtain ⟨M,hM⟩:∃ M,ml s i (i-a)=M:=⟨_,rfl⟩
               rw [hM] at hml3 hmle hfrom hnear
               refine join1 (λ(n:Int) σ'=>n=(M:Nat)/\σ1.Same σ') ?_ ?_
               · refine loop1 (λ(n:Nat) (x:Int) σ'=>x=n/\3<=n/\n<=258/\mlF s i (i-a) (258-n) n=M/\σ1.Same σ') (λn=>258-n) 3 ⟨rfl,by omega,by omega,hfrom,s2.bump _⟩ ?_
                 rintro n _ σ3 ⟨rfl,hn3,hn,hmn,s3⟩
                 unfold z9K
                 have stop:(n<258->¬ agr s i (i-a) n)->M=n:=λh=>by rw [<- hmn];exact zo3 h hn
                 have hst3:=s3.keep hstr I.pn.1
                 have hub3:=s3.keep hub (hlt ub (by simp [z3])).1
                 refine ifD (λhn2=>?_) (λhn2=>?_)
                 · repeat (first | refine To.go ?_ | with_reducible refine And.intro (by omega) ?_ | ((with_reducible apply ldrw);(· ((simp (disch:=omega) only [go_sem, *];try rfl)));(· (rfl))))
                   refine ifD (λhsz=>?_) (λhsz=>?_)
                   · repeat (first | refine To.go ?_ | with_reducible refine And.intro (by omega) ?_ | ((with_reducible apply ldrw);(· ((simp (disch:=omega) only [go_sem, *];try rfl)));(· (first | with_reducible assumption | rfl))))
                     rw [show ((i:Int)+n).toNat=i+n from by omega,show ((a:Int)+n).toNat=i+n-(i-a) from by omega]
                     refine ifD (λheq=>?_) (λheq=>?_)
                     · repeat (first | refine To.go ?_ | with_reducible refine And.intro (by omega) ?_)
                       refine again ⟨n+1,⟨by omega,by omega,by omega,?_,s3.bump _⟩,by omega⟩
                       rw [<- hmn]
                       exact (zd9 (by omega) ⟨by omega,by omega⟩).symm
                     · exact ⟨by rw [stop λ_ h=>heq (by rw [h.2])],s3.bump _⟩
                   · exact ⟨by rw [stop λ_ h=>by have:=h.1;omega],s3.bump _⟩
                 · exact ⟨by rw [stop λh=>by omega],s3.bump _⟩
               · rintro _ σ3 ⟨rfl,s3⟩
                 unfold z9D
                 have hub3:=s3.keep hub (hlt ub (by simp [z3])).1
                 refine join2 (λ(b' g':Int) σ'=>b'=((cut3 (rb s i (zby i P (q-1)))).1:Nat)/\g'=((cut3 (rb s i (zby i P (q-1)))).2:Nat)/\σ1.Same σ') ?_ ?_
                 · rw [hD',hnear]
                   refine ifD (λhbm=>?_) (λhbm=>?_)
                   · rw [if_pos (by omega)]
                     repeat (first | refine To.go ?_ | with_reducible refine And.intro (by omega) ?_ | ((with_reducible apply ldrw);(· ((simp (disch:=omega) only [go_sem, *];try rfl)));(· (with_reducible assumption))))
                     exact s3.bump _
                   · rw [if_neg (by omega)]
                     exact ⟨hb,hg,s3.bump _⟩
                 · rintro b' g' σ4 ⟨hb',hg',s4⟩
                   unfold z9Q
                   refine ifD (λhfull=>?_) (λhfull=>?_)
                   · have hfull':(rb s i (i-a)).1=258:=by
                      rw [hD'] at hb'
                      have:(cut3 (rb s i (i-a))).1=258:=by omega
                      unfold cut3 at this
                      split at this
                      · exact this
                      · exact absurd this (by decide)
                     have hbest:best s i=rb s i (i-a):=znb hfull' (by omega)
                     rw [hD',<- hbest] at hb' hg'
                     exact ⟨hb',hg',s4.bump _⟩
                   · repeat (first | refine To.go ?_ | with_reducible refine And.intro (by omega) ?_)
                     refine again ⟨q-1,⟨by omega,by omega,by rw [hD'];omega,hb',hg',s4.bump _⟩,by omega⟩
             · have:=hcut q hq hD λa' _ h5=>by rw [hPq] at h5;obtain rfl:=Option.some.inj h5;omega
               rw [<- this] at hb hg
               exact ⟨hb,hg,s2.bump _⟩
           · have:=hcut q hq hD λa' h4 _=>by omega
             rw [<- this] at hb hg
             exact ⟨hb,hg,s2.bump _⟩
         · rintro b g σ2 h
           unfold z9I
           exact h
       · have hbs:=zee (s:=s) (i:=i) hle
         have:cut3 (best s i)=(0,0):=if_neg (by omega)
         rw [this]
         exact ⟨rfl,rfl,(Mem.Same.refl σ1).bump _⟩
     · rintro _ _ σ2 ⟨rfl,rfl,s2⟩
       unfold z9L
       simp only [Mem.next_put,Mem.next_bump]
       rw [hc,hp]
       have I2:=I.then s2
       have hst2:=I2.str
       have hbs:=zee (s:=s) (i:=i) hle
       have hrb:=znY s i (min 512 i)
       have htk':tk s i=if 3<=(best s i).1 then ((0,((best s i).1:Int),((best s i).2:Int)),i+(best s i).1) else ((((ze s i:Nat):Int),0,0),i+1):=rfl
       rw [show rb s i (min 512 i)=best s i from rfl] at hrb
       have hbyte:=zF s i
       obtain ⟨w,hw⟩:∃ w,best s i=w:=⟨_,rfl⟩
       rw [hw] at hbs hrb htk' ⊢
       obtain ⟨b,g⟩:=w
       dsimp only at hbs hrb htk' ⊢
       by_cases hb3:3<=b
       · rw [if_pos hb3] at htk'
         rw [show cut3 (b,g)=(b,g) from if_pos hb3]
         dsimp only
         repeat (first | refine To.go ?_ | with_reducible refine And.intro (by first | omega | exact ⟨rfl,rfl⟩) ?_ | with_reducible refine ifF (by omega) ?_)
         refine I2.own.push (m:=1) I2.same rfl (by omega) (by omega) (by omega) rfl rfl (zja _) (by omega) ?_ (by simp only [Mem.next_put,Mem.next_bump];omega)
         intro v' σ3 own3 s3 hn3 o3 hb3'
         rw [show [AV.int .i64 0,.int .i64 ((b:Nat):Int),.int .i64 ((g:Nat):Int)]=zlh (zoN s k) from by rw [htk,htk'];rfl,<- zjb] at own3
         refine z8E (I2.next hs (n:=b) own3 s3 o3 (by omega) hb3' (by omega) 4) ?_
         rintro r σ4 ⟨rfl,f',I4⟩
         repeat (first | refine To.go ?_ | with_reducible refine And.intro (by omega) ?_)
         refine ⟨by rw [hpos,htk'];omega,f',?_⟩
         rw [hpos,htk']
         exact I4.then ((Mem.Same.refl σ4).bump 4)
       · rw [if_neg hb3] at htk'
         rw [show cut3 (b,g)=(0,0) from if_neg hb3]
         dsimp only
         repeat (first | refine To.go ?_ | with_reducible refine And.intro (by first | omega | exact ⟨rfl,rfl⟩) ?_ | ((with_reducible apply ldrw);(· ((simp (disch:=omega) only [go_sem, *];try rfl)));(· (rfl))) | with_reducible refine ifT (by omega) ?_)
         refine I2.own.push (m:=1) I2.same rfl (by omega) (by omega) (by omega) rfl rfl (zja _) (by omega) ?_ (by simp only [Mem.next_put,Mem.next_bump];omega)
         intro v' σ3 own3 s3 hn3 o3 hb3'
         rw [show [AV.int .i64 ((ze s i:Nat):Int),.int .i64 0,.int .i64 0]=zlh (zoN s k) from by rw [htk,htk'];rfl,<- zjb] at own3
         refine z8E (I2.next hs (n:=1) own3 s3 o3 (by omega) hb3' (by omega) 3) ?_
         rintro r σ4 ⟨rfl,f',I4⟩
         repeat (first | refine To.go ?_ | with_reducible refine And.intro (by omega) ?_)
         refine ⟨by rw [hpos,htk'];omega,f',?_⟩
         rw [hpos,htk']
         exact I4.then ((Mem.Same.refl σ4).bump 3)
   · rintro v' _ σ3 ⟨rfl,f',I3⟩
     unfold z9T
     have hk':∀ j<k+1,pos s j<s.size:=λj hj=>by
      rcases Nat.eq_or_lt_of_le (Nat.le_of_lt_succ hj) with rfl | hj
      · omega
      · exact hk j hj
     refine again ⟨k+1,⟨rfl,hk',f',I3⟩,?_⟩
     have:=zoK hlt'
     rw [hpos];omega
 · exact ⟨k,⟨by omega,hk⟩,(I.then ((Mem.Same.refl σ1).bump 6)).own,I.same.bump _⟩
end
end Go.Vit
