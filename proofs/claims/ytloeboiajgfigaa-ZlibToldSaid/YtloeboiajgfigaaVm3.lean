/- The library. -/
import Derived.Test.YtloeboiajgfigaaVm2
set_option linter.unusedVariables false
set_option linter.unusedSimpArgs false
section
namespace Go.Vit
class Key (α:Type) [DecidableEq α] where
 enc:α->AV
 eq:∀ a b,keyEq (enc a) (enc b)=some (decide (a=b))
instance:Key ByteArray:=⟨.str,fun a b=>by
 show some (a.data.toList == b.data.toList)=_
 congr 1
 rcases a with ⟨a⟩
 rcases b with ⟨b⟩
 by_cases h:a=b
 · subst h;simp
 · have h1:ByteArray.mk a≠ByteArray.mk b:=fun e=>h (by injection e)
   have h2:a.toList≠b.toList:=fun e=>h (Array.toList_inj.1 e)
   rw [decide_eq_false h1]
   exact beq_false_of_ne h2⟩
instance:Key Int:=⟨.int .i64,fun a b=>by
 show (if IntKind.i64=IntKind.i64 then some (a == b) else none)=_
 rw [if_pos rfl]
 by_cases h:a=b
 · subst h;simp
 · simp [h]⟩
section
variable {α:Type} [DecidableEq α]
def look:List (α×AV×Nat)->α->Option AV
 | [],_=>none
 | e::l,a=>if e.1=a then some e.2.1 else look l a
def idx:List (α×AV×Nat)->α->Option Nat
 | [],_=>none
 | e::l,a=>if e.1=a then some 0 else (idx l a).map (·+1)
theorem idx_none {a:α}:∀ {l:List (α×AV×Nat)},idx l a=none->look l a=none
 | [],_=>rfl
 | e::l,h=>by
   by_cases he:e.1=a
   · rw [idx,if_pos he] at h;exact nomatch h
   · rw [idx,if_neg he,Option.map_eq_none_iff] at h
     rw [look,if_neg he,idx_none h]
theorem idx_some {a:α}:∀ {l:List (α×AV×Nat)} {i:Nat},idx l a=some i->∃ e,l[i]? = some e/\e.1=a/\look l a=some e.2.1
 | [],_,h=>nomatch h
 | e::l,i,h=>by
   by_cases he:e.1=a
   · rw [idx,if_pos he] at h
     obtain rfl:=Option.some.inj h
     exact ⟨e,rfl,he,by rw [look,if_pos he]⟩
   · rw [idx,if_neg he,Option.map_eq_some_iff] at h
     obtain ⟨j,hj,rfl⟩:=h
     obtain ⟨e',h1,h2,h3⟩:=idx_some hj
     exact ⟨e',by simpa using h1,h2,by rw [look,if_neg he,h3]⟩
theorem look_append (l:List (α×AV×Nat)) (a:α) (v:AV) (n:Nat) (h:look l a=none) (b:α):look (l++[(a,v,n)]) b=if b=a then some v else look l b:=by
 induction l with
 | nil=>
   show (if a=b then some v else none)=_
   by_cases hb:b=a
   · rw [if_pos hb,if_pos hb.symm]
   · rw [if_neg hb,if_neg fun e=>hb e.symm];rfl
 | cons e l ih=>
   rw [look] at h
   by_cases he:e.1=a
   · rw [if_pos he] at h;exact nomatch h
   · rw [if_neg he] at h
     rw [List.cons_append,look,ih h,look]
     by_cases hb:e.1=b
     · rw [if_pos hb,if_pos hb,if_neg fun e'=>he (hb.trans e')]
     · rw [if_neg hb,if_neg hb]
theorem look_modify (v:AV) {a:α}:∀ {l:List (α×AV×Nat)} {i:Nat},idx l a=some i->∀ b,look (l.modify i fun e=>(a,v,e.2.2)) b=if b=a then some v else look l b
 | [],_,h=>nomatch h
 | e::l,i,h=>fun b=>by
   by_cases he:e.1=a
   · rw [idx,if_pos he] at h
     obtain rfl:=Option.some.inj h
     rw [List.modify_zero_cons,look,look]
     by_cases hb:b=a
     · rw [if_pos hb.symm,if_pos hb]
     · rw [if_neg fun e=>hb e.symm,if_neg hb,if_neg fun e'=>hb (e'.symm.trans he)]
   · rw [idx,if_neg he,Option.map_eq_some_iff] at h
     obtain ⟨j,hj,rfl⟩:=h
     rw [List.modify_succ_cons,look,look_modify v hj b,look]
     by_cases hb:e.1=b
     · rw [if_pos hb,if_pos hb,if_neg fun e'=>he (hb.trans e')]
     · rw [if_neg hb,if_neg hb]
end
section
variable {α:Type} [DecidableEq α] [Key α]
def encE (l:List (α×AV×Nat)):List (AV×AV×Nat):=l.map fun e=>(Key.enc e.1,e.2)
theorem findK_enc (a:α):∀ l:List (α×AV×Nat),findK (Key.enc a) (encE l)=some (idx l a)
 | []=>rfl
 | e::l=>by
   show (keyEq (Key.enc a) (Key.enc e.1)).bind _=_
   rw [Key.eq,Option.bind_some]
   by_cases h:e.1=a
   · rw [if_pos (decide_eq_true h.symm),idx,if_pos h]
   · rw [if_neg (by simpa using fun e=>h e.symm),idx,if_neg h]
     show Option.map _ (findK (Key.enc a) (encE l))=_
     rw [findK_enc a l];rfl
theorem encE_modify (a:α) (v:AV):∀ (l:List (α×AV×Nat)) (i:Nat),(encE l).modify i (fun e=>(Key.enc a,v,e.2.2))=encE (l.modify i fun e=>(a,v,e.2.2))
 | [],i=>by simp [encE]
 | e::l,0=>rfl
 | e::l,i+1=>by
   show (Key.enc e.1,e.2)::(encE l).modify i _=_
   rw [encE_modify a v l i];rfl
theorem encE_get {l:List (α×AV×Nat)} {i:Nat} {e:α×AV×Nat} (h:l[i]? = some e):(encE l)[i]? = some (Key.enc e.1,e.2):=by
 unfold encE;rw [List.getElem?_map,h];rfl
theorem look_step {σ:Mem} {m c:Nat} {l:List (α×AV×Nat)} {a:α} {z:AV} {K:AV->Prop} (h:σ.get m=some (.map (encE l) c)) (hk:K ((look l a).getD z)):lookW σ z false (.map m) (Key.enc a) K:=by
 refine opt h ?_
 refine opt (findK_enc a l) ?_
 cases hi:idx l a with
 | none=>rw [idx_none hi] at hk;exact hk
 | some i=>
   obtain ⟨e,h1,h2,h3⟩:=idx_some hi
   rw [h3] at hk
   exact opt (encE_get h1) hk
theorem mup_step {σ:Mem} {m c:Nat} {l:List (α×AV×Nat)} {a:α} {v:AV} {K:Mem->Prop} (h:σ.get m=some (.map (encE l) c))
 (hk:∀ l' c',(∀ b,look l' b=if b=a then some v else look l b)->K (σ.put m (some (.map (encE l') c')))):mupW σ (.map m) (Key.enc a) v K:=by
 refine opt h ?_
 refine opt (findK_enc a l) ?_
 cases hi:idx l a with
 | none=>
   have:=hk (l++[(a,v,c)]) (c+1) (look_append l a v c (idx_none hi))
   rw [show encE (l++[(a,v,c)])=encE l++[(Key.enc a,v,c)] from by simp [encE]] at this
   exact this
 | some i=>
   have:=hk (l.modify i fun e=>(a,v,e.2.2)) c (look_modify v hi)
   rw [<- encE_modify] at this
   exact this
end
end Go.Vit
end
section
namespace Go.Vit
theorem OwnS.sl {k n:Nat} {σ:Mem} {v:AV} {cs:List AV} (h:OwnS k σ v cs n) (hn:0<n):∃ b,v=.slice b 0 n (.op k)/\σ.get b=some (.rw cs)/\cs.length=n*k:=by
 rcases h with ⟨_,h,_⟩ | h
 · omega
 · exact h
abbrev Tok:=Int×Int×Int
def tokC (t:Tok):List AV:=[.int .i64 t.1,.int .i64 t.2.1,.int .i64 t.2.2]
theorem tokC_len (t:Tok):(tokC t).length=3:=rfl
theorem tokC_one (l:List Tok):(l.flatMap tokC).all AV.one=true:=by
 rw [List.all_eq_true]
 intro x hx
 obtain ⟨t,_,hx⟩:=List.mem_flatMap.1 hx
 simp [tokC] at hx
 rcases hx with rfl | rfl | rfl<;>rfl
def agr (s:ByteArray) (i d n:Nat):Prop:=i+n<s.size/\byteAt s (i+n)=byteAt s (i+n-d)
instance (s:ByteArray) (i d n:Nat):Decidable (agr s i d n):=inferInstanceAs (Decidable (_/\_))
def mlF (s:ByteArray) (i d:Nat):Nat->Nat->Nat
 | 0,n=>n
 | f+1,n=>if agr s i d n then mlF s i d f (n+1) else n
def ml (s:ByteArray) (i d:Nat):Nat:=mlF s i d 258 0
theorem mlF_le {s:ByteArray} {i d:Nat}:∀ {f n:Nat},n<=mlF s i d f n/\mlF s i d f n<=n+f
 | 0,n=>by simp [mlF]
 | f+1,n=>by
   rw [mlF]
   split
   · have:=mlF_le (s:=s) (i:=i) (d:=d) (f:=f) (n:=n+1);omega
   · omega
theorem mlF_agr {s:ByteArray} {i d:Nat}:∀ {f n t:Nat},n<=t->t<mlF s i d f n->agr s i d t
 | 0,n,t,h1,h2=>by rw [mlF] at h2;omega
 | f+1,n,t,h1,h2=>by
   rw [mlF] at h2
   split at h2
   · rename_i h
     rcases Nat.eq_or_lt_of_le h1 with rfl | h1
     · exact h
     · exact mlF_agr h1 h2
   · omega
theorem mlF_end {s:ByteArray} {i d:Nat}:∀ {f n:Nat},mlF s i d f n=n+f\/¬ agr s i d (mlF s i d f n)
 | 0,n=>.inl rfl
 | f+1,n=>by
   rw [mlF]
   split
   · rcases mlF_end (s:=s) (i:=i) (d:=d) (f:=f) (n:=n+1) with h | h
     · exact .inl (by omega)
     · exact .inr h
   · rename_i h;exact .inr h
theorem mlF_step {s:ByteArray} {i d n:Nat} (hn:n<258) (h:agr s i d n):mlF s i d (258-n) n=mlF s i d (258-(n+1)) (n+1):=by
 rw [show 258-n=(258-(n+1))+1 from by omega,mlF,if_pos h]
theorem mlF_stop {s:ByteArray} {i d n:Nat} (h:n<258->¬ agr s i d n) (hn:n<=258):mlF s i d (258-n) n=n:=by
 rcases Nat.eq_or_lt_of_le hn with rfl | hn
 · rfl
 · rw [show 258-n=(258-(n+1))+1 from by omega,mlF,if_neg (h hn)]
theorem ml_le (s:ByteArray) (i d:Nat):ml s i d<=258:=by have:=mlF_le (s:=s) (i:=i) (d:=d) (f:=258) (n:=0);unfold ml;omega
theorem ml_agr {s:ByteArray} {i d t:Nat} (h:t<ml s i d):agr s i d t:=mlF_agr (Nat.zero_le t) h
theorem ml_max {s:ByteArray} {i d n:Nat} (hn:n<=258) (h:∀ t<n,agr s i d t):n<=ml s i d:=by
 rcases mlF_end (s:=s) (i:=i) (d:=d) (f:=258) (n:=0) with h1 | h1
 · unfold ml;omega
 · unfold ml
   rcases Nat.lt_or_ge (mlF s i d 258 0) n with h2 | h2
   · exact absurd (h _ h2) h1
   · exact h2
theorem ml_size {s:ByteArray} {i d:Nat} (hi:i<=s.size):i+ml s i d<=s.size:=by
 rcases Nat.eq_zero_or_pos (ml s i d) with h | h
 · omega
 · have:=(ml_agr (show ml s i d-1<ml s i d by omega)).1;omega
theorem ml_from3 {s:ByteArray} {i d:Nat} (h:3<=ml s i d):mlF s i d 255 3=ml s i d:=by
 unfold ml
 rw [mlF_step (n:=0) (by decide) (ml_agr (by omega)),mlF_step (n:=0+1) (by decide) (ml_agr (by omega)),mlF_step (n:=0+1+1) (by decide) (ml_agr (by omega))]
def tri (s:ByteArray) (i:Nat):ByteArray:=s.extract i (i+3)
theorem tri_eq {s:ByteArray} {i j:Nat} (hi:i+3<=s.size) (hj:j+3<=s.size):tri s i=tri s j↔∀ t<3,byteAt s (i+t)=byteAt s (j+t):=by
 unfold tri
 constructor
 · intro h t ht
   have:=congrArg (fun x=>byteAt x t) h
   rwa [byteAt_extract _ _ _ _ (by omega),byteAt_extract _ _ _ _ (by omega)] at this
 · intro h
   refine bytes_ext (by rw [size_extract,size_extract];omega) fun t ht=>?_
   rw [size_extract] at ht
   rw [byteAt_extract _ _ _ _ (by omega),byteAt_extract _ _ _ _ (by omega),h t (by omega)]
theorem ml3 {s:ByteArray} {i d:Nat} (hd:d<=i) (hi:i+3<=s.size):3<=ml s i d↔tri s (i-d)=tri s i:=by
 rw [tri_eq (by omega) hi]
 constructor
 · intro h t ht
   have:=(ml_agr (s:=s) (i:=i) (d:=d) (t:=t) (by omega)).2
   rw [show i-d+t=i+t-d from by omega,this]
 · intro h
   refine ml_max (by decide) fun t ht=>⟨by omega,?_⟩
   rw [show i+t-d=i-d+t from by omega,h t ht]
def rb (s:ByteArray) (i:Nat):Nat->Nat×Nat
 | 0=>(0,0)
 | d+1=>if (rb s i d).1<ml s i (d+1) then (ml s i (d+1),d+1) else rb s i d
theorem rb_le (s:ByteArray) (i:Nat):∀ d,(rb s i d).1<=258/\(rb s i d).2<=d/\(1<=(rb s i d).1->1<=(rb s i d).2/\ml s i (rb s i d).2=(rb s i d).1)
 | 0=>by simp [rb]
 | d+1=>by
   have:=rb_le s i d
   have:=ml_le s i (d+1)
   rw [rb]
   split
   · dsimp only;omega
   · omega
def cut3 (p:Nat×Nat):Nat×Nat:=if 3<=p.1 then p else (0,0)
theorem cut3_far {s:ByteArray} {i d:Nat}:∀ {e:Nat},d<=e->(∀ x,d<x->x<=e->ml s i x<3)->cut3 (rb s i e)=cut3 (rb s i d)
 | 0,h,_=>by obtain rfl:d=0:=by omega
             rfl
 | e+1,h,hx=>by
   rcases Nat.eq_or_lt_of_le h with rfl | h
   · rfl
   · have ih:=cut3_far (s:=s) (i:=i) (Nat.le_of_lt_succ h) fun x h1 h2=>hx x h1 (by omega)
     have:=hx (e+1) h (Nat.le_refl _)
     rw [<- ih,rb]
     split
     · unfold cut3;dsimp only;rw [if_neg (by omega),if_neg (by omega)]
     · rfl
theorem cut3_near {s:ByteArray} {i d:Nat} (h:3<=ml s i (d+1)):cut3 (rb s i (d+1))=if (cut3 (rb s i d)).1<ml s i (d+1) then (ml s i (d+1),d+1) else cut3 (rb s i d):=by
 rw [rb]
 by_cases h1:3<=(rb s i d).1
 · have e:cut3 (rb s i d)=rb s i d:=if_pos h1
   rw [e]
   by_cases h2:(rb s i d).1<ml s i (d+1)
   · rw [if_pos h2];exact if_pos h
   · rw [if_neg h2,e]
 · have e:cut3 (rb s i d)=(0,0):=if_neg h1
   rw [e,if_pos (by omega),if_pos (by show 0<_;omega)];exact if_pos h
theorem rb_full {s:ByteArray} {i d:Nat} (h:(rb s i d).1=258):∀ {e:Nat},d<=e->rb s i e=rb s i d
 | 0,hd=>by obtain rfl:d=0:=by omega
            rfl
 | e+1,hd=>by
   rcases Nat.eq_or_lt_of_le hd with rfl | hd
   · rfl
   · have ih:=rb_full h (Nat.le_of_lt_succ hd)
     have:=ml_le s i (e+1)
     rw [rb,ih,if_neg (by omega)]
def best (s:ByteArray) (i:Nat):Nat×Nat:=rb s i (min 512 i)
def tk (s:ByteArray) (i:Nat):Tok×Nat:=
 if 3<=(best s i).1 then ((0,(best s i).1,(best s i).2),i+(best s i).1) else (((byteAt s i:Nat),0,0),i+1)
def pos (s:ByteArray):Nat->Nat
 | 0=>0
 | k+1=>(tk s (pos s k)).2
def tkAt (s:ByteArray) (k:Nat):Tok:=(tk s (pos s k)).1
def toks (s:ByteArray) (k:Nat):List Tok:=(List.range k).map (tkAt s)
theorem toks_succ (s:ByteArray) (k:Nat):toks s (k+1)=toks s k++[tkAt s k]:=by simp [toks,List.range_succ]
theorem toks_len (s:ByteArray) (k:Nat):(toks s k).length=k:=by simp [toks]
theorem toks_get {s:ByteArray} {k i:Nat} (h:i<(toks s k).length):(toks s k)[i]=tkAt s i:=by simp [toks]
def Done (s:ByteArray) (k:Nat):Prop:=pos s k=s.size/\∀ j<k,pos s j<s.size
theorem best_size {s:ByteArray} {i:Nat} (hi:i<=s.size):i+(best s i).1<=s.size:=by
 unfold best
 have h:=rb_le s i (min 512 i)
 generalize min 512 i=d at *
 rcases Nat.eq_zero_or_pos (rb s i d).1 with h0 | h0
 · omega
 · have:=ml_size (s:=s) (i:=i) (d:=(rb s i d).2) hi
   rw [(h.2.2 h0).2] at this
   exact this
theorem tk_le {s:ByteArray} {i:Nat} (hi:i<s.size):i<(tk s i).2/\(tk s i).2<=s.size:=by
 unfold tk
 have:=best_size (Nat.le_of_lt hi)
 split<;>dsimp only<;>omega
theorem pos_le {s:ByteArray}:∀ {k:Nat},(∀ j<k,pos s j<s.size)->pos s k<=s.size
 | 0,_=>Nat.zero_le _
 | k+1,h=>(tk_le (h k (by omega))).2
theorem pos_ge {s:ByteArray}:∀ {k:Nat},(∀ j<k,pos s j<s.size)->k<=pos s k
 | 0,_=>Nat.zero_le _
 | k+1,h=>by
   have h1:=pos_ge (s:=s) (k:=k) fun j hj=>h j (by omega)
   have h2:=(tk_le (h k (by omega))).1
   show k+1<=(tk s (pos s k)).2
   omega
theorem done_unique {s:ByteArray} {k k':Nat} (h:Done s k) (h':Done s k'):k=k':=by
 rcases Nat.lt_trichotomy k k' with h1 | h1 | h1
 · have:=h'.2 k h1;have:=h.1;omega
 · exact h1
 · have:=h.2 k' h1;have:=h'.1;omega
theorem done_len {s:ByteArray} {k:Nat} (h:Done s k):k<=s.size:=by have:=pos_ge h.2;have:=h.1;omega
end Go.Vit
end
section
namespace Go.Vit
def right (t:Tok):Prop:=if t.2.1=0 then t.2.2=0/\0<=t.1/\t.1<=255 else t.1=0/\3<=t.2.1/\t.2.1<=258/\1<=t.2.2/\t.2.2<=32768
instance (t:Tok):Decidable (right t):=by unfold right;infer_instance
def copyN (out:List UInt8) (d:Nat):Nat->List UInt8
 | 0=>out
 | n+1=>copyN out d n++[(copyN out d n)[(copyN out d n).length-d]?.getD 0]
theorem copyN_len (out:List UInt8) (d:Nat):∀ n,(copyN out d n).length=out.length+n
 | 0=>rfl
 | n+1=>by rw [copyN,List.length_append,copyN_len out d n];rfl
def exp:List UInt8->List Tok->ByteArray×Int
 | out,[]=>(⟨out.toArray⟩,0)
 | out,t::l=>if right t then (if t.2.1=0 then exp (out++[UInt8.ofNat t.1.toNat]) l else if (out.length:Int)<t.2.2 then (⟨#[]⟩,15) else exp (copyN out t.2.2.toNat t.2.1.toNat) l) else (⟨#[]⟩,1)
/-! ### What the tokens of bytes say -/
theorem byteAt_opt {s:ByteArray} {i:Nat} (h:i<s.size):(bytesL s)[i]? = some (UInt8.ofNat (byteAt s i)):=byteAt_get h
theorem copyN_agr {s:ByteArray} {i d:Nat} (h1:1<=d) (h2:d<=i):∀ {n:Nat},(∀ t<n,agr s i d t)->i<=s.size->copyN ((bytesL s).take i) d n=(bytesL s).take (i+n)
 | 0,_,_=>rfl
 | n+1,h,hi=>by
   have ih:=copyN_agr h1 h2 (n:=n) (fun t ht=>h t (by omega)) hi
   obtain ⟨h3,h4⟩:=h n (by omega)
   have hl:((bytesL s).take (i+n)).length=i+n:=by rw [List.length_take,bytesL_length];omega
   rw [copyN,ih,hl,List.getElem?_take_of_lt (by omega),byteAt_opt (by omega),Option.getD_some,<- h4,<- Nat.add_assoc,List.take_add_one,byteAt_opt h3]
   rfl
theorem tk_right {s:ByteArray} {i:Nat} (hi:i<s.size):right (tk s i).1/\(tk s i).1.2.2<=512/\(max (tk s i).1.2.1 1).toNat=(tk s i).2-i:=by
 have hb:=rb_le s i (min 512 i)
 have hs:=byteAt_lt s i
 rw [show rb s i (min 512 i)=best s i from rfl] at hb
 unfold tk
 split
 · rename_i h
   have:=hb.2.2 (by omega)
   unfold right
   dsimp only
   refine ⟨?_,by omega,by omega⟩
   rw [if_neg (by omega)]
   omega
 · unfold right
   dsimp only
   refine ⟨?_,by omega,by omega⟩
   rw [if_pos rfl]
   omega
theorem tk_says {s:ByteArray} {i:Nat} (hi:i<s.size) (l:List Tok):exp ((bytesL s).take i) ((tk s i).1::l)=exp ((bytesL s).take (tk s i).2) l:=by
 have hr:=(tk_right hi).1
 rw [exp,if_pos hr]
 have hb:=rb_le s i (min 512 i)
 rw [show rb s i (min 512 i)=best s i from rfl] at hb
 have hl:((bytesL s).take i).length=i:=by rw [List.length_take,bytesL_length];omega
 have hbs:=best_size (Nat.le_of_lt hi)
 unfold tk
 split
 · rename_i h
   obtain ⟨h1,h2⟩:=hb.2.2 (by omega)
   dsimp only
   rw [if_neg (by omega),if_neg (by rw [hl];omega),Int.toNat_natCast,Int.toNat_natCast,copyN_agr h1 (by omega) (fun t ht=>ml_agr (by rw [h2];exact ht)) (Nat.le_of_lt hi)]
 · dsimp only
   rw [if_pos rfl,Int.toNat_natCast,List.take_add_one,byteAt_opt hi]
   rfl
theorem toks_drop {s:ByteArray} {k j:Nat} (h:j<k):(toks s k).drop j=tkAt s j::(toks s k).drop (j+1):=by
 rw [List.drop_eq_getElem_cons (by rw [toks_len];exact h),toks_get]
theorem exp_toks {s:ByteArray} {k:Nat} (h:Done s k):exp [] (toks s k)=(s,0):=by
 have:∀ j,j<=k->exp [] (toks s k)=exp ((bytesL s).take (pos s j)) ((toks s k).drop j):=by
  intro j
  induction j with
  | zero=>intro _;simp [pos]
  | succ j ih=>
    intro hj
    rw [ih (by omega),toks_drop (by omega)]
    exact tk_says (h.2 j (by omega)) _
 rw [this k (Nat.le_refl _),h.1,List.take_of_length_le (by rw [bytesL_length];omega),List.drop_of_length_le (by rw [toks_len];omega),exp,mk_bytesL]
end Go.Vit
end
section
namespace Go.Vit
def ic (l:List Int):List AV:=l.map fun n=>.int .i64 n
theorem ic_len (l:List Int):(ic l).length=l.length:=by simp [ic]
theorem ic_get {l:List Int} {i:Nat} (h:i<l.length):(ic l)[i]? = some (.int .i64 l[i]):=by simp [ic,List.getElem?_eq_getElem h]
theorem ic_one (l:List Int):(ic l).all AV.one=true:=by
 rw [List.all_eq_true]
 intro x hx
 simp only [ic,List.mem_map] at hx
 obtain ⟨b,_,rfl⟩:=hx
 rfl
theorem ic_set (l:List Int) (i:Nat) (n:Int):(ic l).set i (.int .i64 n)=ic (l.set i n):=by unfold ic;rw [List.map_set]
theorem ic_append (l m:List Int):ic (l++m)=ic l++ic m:=by simp [ic]
def arr (f:Nat->Int) (n:Nat):List Int:=(List.range n).map f
theorem arr_len (f:Nat->Int) (n:Nat):(arr f n).length=n:=by simp [arr]
theorem arr_get {f:Nat->Int} {n i:Nat} (h:i<n):(ic (arr f n))[i]? = some (.int .i64 (f i)):=by
 rw [ic_get (by rw [arr_len];exact h)];simp [arr]
theorem arr_set {f:Nat->Int} {n i:Nat} (v:Int):(arr f n).set i v=arr (fun j=>if j=i then v else f j) n:=by
 refine List.ext_getElem (by simp [arr]) fun k h1 h2=>?_
 rw [List.getElem_set]
 simp only [arr,List.getElem_map,List.getElem_range]
 by_cases h:i=k
 · rw [if_pos h,if_pos h.symm]
 · rw [if_neg h,if_neg fun e=>h e.symm]
theorem arr_ext {f g:Nat->Int} {n:Nat} (h:∀ j<n,f j=g j):arr f n=arr g n:=
 List.map_congr_left fun j hj=>h j (List.mem_range.1 hj)
theorem arr_zero (n:Nat):List.replicate n (AV.int .i64 0)=ic (arr (fun _=>0) n):=by
 refine List.ext_getElem (by simp [ic,arr]) fun i h1 h2=>?_
 simp [ic,arr]
theorem repl_zero (n:Nat):repl n [.int .i64 0]=ic (arr (fun _=>0) n):=by
 rw [<- arr_zero];rfl
/-! ### How many codes there are of each length -/
def cN (L:List Int) (n:Nat):Nat:=L.countP fun (x:Int)=>decide (0<x/\x=(n:Int))
theorem cN_append (L M:List Int) (n:Nat):cN (L++M) n=cN L n+cN M n:=by unfold cN;rw [List.countP_append]
theorem cN_cons (x:Int) (L:List Int) (n:Nat):cN (x::L) n=cN L n+if 0<x/\x=n then 1 else 0:=by
 unfold cN;rw [List.countP_cons];simp
theorem cN_zero (L:List Int):cN L 0=0:=by
 induction L with
 | nil=>rfl
 | cons x L ih=>rw [cN_cons,ih,if_neg (by omega)]
theorem cN_le (L:List Int) (n:Nat):cN L n<=L.length:=List.countP_le_length
theorem cN_take_succ {L:List Int} {i:Nat} (h:i<L.length) (n:Nat):cN (L.take (i+1)) n=cN (L.take i) n+if 0<L[i]/\L[i]=n then 1 else 0:=by
 rw [List.take_succ_eq_append_getElem h,cN_append,cN_cons];simp [cN]
theorem cN_take_le (L:List Int) (i n:Nat):cN (L.take i) n<=cN L n:=(List.take_sublist i L).countP_le
def many (L:List Int):Nat:=L.countP fun x=>decide (0<x)
def room (L:List Int):Nat:=(L.map fun x=>if 0<x then 2^(15-x).toNat else 0).sum
def lens (L:List Int):Prop:=L.length<=288/\∀ x∈L,0<=x/\x<=15
instance (L:List Int):Decidable (lens L):=by unfold lens;infer_instance
def msum (c:Nat->Nat):Nat->Nat
 | 0=>0
 | k+1=>msum c k+c k
def wsum (c:Nat->Nat):Nat->Nat
 | 0=>0
 | k+1=>wsum c k+c k*2^(15-k)
theorem msum_upd {c c':Nat->Nat} {x:Nat} (h:∀ n,c' n=c n+if x=n then 1 else 0):∀ k,msum c' k=msum c k+if x<k then 1 else 0
 | 0=>by simp [msum]
 | k+1=>by
   rw [msum,msum,msum_upd h k,h k]
   split<;>split<;>split<;>omega
theorem wsum_upd {c c':Nat->Nat} {x:Nat} (h:∀ n,c' n=c n+if x=n then 1 else 0):∀ k,wsum c' k=wsum c k+if x<k then 2^(15-x) else 0
 | 0=>by simp [wsum]
 | k+1=>by
   rw [wsum,wsum,wsum_upd h k,h k,Nat.add_mul]
   by_cases h1:x=k
   · subst h1
     rw [if_neg (by omega),if_pos rfl,if_pos (by omega),Nat.one_mul];omega
   · rw [if_neg h1,Nat.zero_mul]
     by_cases h2:x<k
     · rw [if_pos h2,if_pos (by omega)];omega
     · rw [if_neg h2,if_neg (by omega)];omega
theorem msum_same {c c':Nat->Nat} (h:∀ n,c' n=c n):∀ k,msum c' k=msum c k
 | 0=>rfl
 | k+1=>by rw [msum,msum,msum_same h k,h k]
theorem wsum_same {c c':Nat->Nat} (h:∀ n,c' n=c n):∀ k,wsum c' k=wsum c k
 | 0=>rfl
 | k+1=>by rw [wsum,wsum,wsum_same h k,h k]
theorem sums {L:List Int} (h:∀ x∈L,0<=x/\x<=15):msum (cN L) 16=many L/\wsum (cN L) 16=room L:=by
 induction L with
 | nil=>exact ⟨rfl,rfl⟩
 | cons x L ih=>
   obtain ⟨h1,h2⟩:=ih fun y hy=>h y (List.mem_cons_of_mem _ hy)
   have hx:=h x (by simp)
   unfold many room at *
   rw [List.countP_cons,List.map_cons,List.sum_cons]
   by_cases h0:0<x
   · obtain ⟨m,rfl⟩:=int_nat hx.1
     have hu:∀ n,cN ((m:Int)::L) n=cN L n+if m=n then 1 else 0:=fun n=>by
      rw [cN_cons]
      congr 1
      by_cases e:m=n
      · subst e;rw [if_pos ⟨h0,rfl⟩,if_pos rfl]
      · rw [if_neg fun e'=>e (by omega),if_neg e]
     rw [msum_upd hu,wsum_upd hu,h1,h2,if_pos (show m<16 by omega),if_pos (show m<16 by omega),if_pos h0,show ((15:Int)-m).toNat=15-m from by omega]
     exact ⟨by rw [if_pos (decide_eq_true h0)],Nat.add_comm _ _⟩
   · have hu:∀ n,cN (x::L) n=cN L n:=fun n=>by rw [cN_cons,if_neg (by omega),Nat.add_zero]
     rw [msum_same hu,wsum_same hu,h1,h2,if_neg h0]
     exact ⟨by simp [h0],by omega⟩
theorem wsum_le {c:Nat->Nat} {k:Nat}:∀ {m:Nat},k<=m->wsum c k<=wsum c m
 | 0,h=>by obtain rfl:k=0:=by omega
           exact Nat.le_refl _
 | m+1,h=>by
   rcases Nat.eq_or_lt_of_le h with rfl | h
   · exact Nat.le_refl _
   · have:=wsum_le (c:=c) (k:=k) (m:=m) (by omega)
     rw [wsum];omega
theorem msum_le {c:Nat->Nat} {k:Nat}:∀ {m:Nat},k<=m->msum c k<=msum c m
 | 0,h=>by obtain rfl:k=0:=by omega
           exact Nat.le_refl _
 | m+1,h=>by
   rcases Nat.eq_or_lt_of_le h with rfl | h
   · exact Nat.le_refl _
   · have:=msum_le (c:=c) (k:=k) (m:=m) (by omega)
     rw [msum];omega
def chk (L:List Int):Int:=
 if ¬ lens L then 1 else if 32768<room L then 10 else if room L<32768/\0<many L/\¬ (many L=1/\cN L 1≠0) then 11 else 0
theorem many_le (L:List Int):many L<=L.length:=List.countP_le_length
theorem room_le (L:List Int):room L<=L.length*32768:=by
 unfold room
 induction L with
 | nil=>simp
 | cons x L ih=>
   rw [List.map_cons,List.sum_cons,List.length_cons,Nat.add_mul]
   have:(if 0<x then 2^(15-x).toNat else 0)<=32768:=by
    split
    · exact pow_le (b:=15) (by omega)
    · omega
   omega
theorem many_take_succ {L:List Int} {i:Nat} (h:i<L.length):many (L.take (i+1))=many (L.take i)+if 0<L[i] then 1 else 0:=by
 unfold many;rw [List.take_succ_eq_append_getElem h,List.countP_append,List.countP_cons];simp
def most (L:List Int):Int:=L.foldl (fun m x=>if 0<x then max m x else m) 0
end Go.Vit
end
section
namespace Go.Vit
def Own (k:Nat) (σ σ':Mem) (v:AV) (cs:List AV) (n:Nat):Prop:=OwnS k σ' v cs n/\∀ b∈blkOf v,σ.next<=b/\b<σ'.next
theorem Own.same {k n:Nat} {σ σ1 σ2:Mem} {v:AV} {cs:List AV} (h:Own k σ σ1 v cs n) (s:σ1.Same σ2):Own k σ σ2 v cs n:=
 ⟨h.1.keep fun b hb=>s.get b (h.2 b hb).2,fun b hb=>⟨(h.2 b hb).1,Nat.lt_of_lt_of_le (h.2 b hb).2 s.next⟩⟩
theorem Own.only {k n:Nat} {σ σ1 σ2:Mem} {v:AV} {cs:List AV} {l:List Nat} (h:Own k σ σ1 v cs n) (s:Mem.Only l σ1 σ2) (hl:∀ b∈blkOf v,b ∉ l):Own k σ σ2 v cs n:=
 ⟨h.1.keep fun b hb=>s.get b (h.2 b hb).2 (hl b hb),fun b hb=>⟨(h.2 b hb).1,Nat.lt_of_lt_of_le (h.2 b hb).2 s.next⟩⟩
theorem Own.nil (k:Nat) (σ σ':Mem):Own k σ σ' .nils [] 0:=⟨.nil k σ',fun b hb=>by simp [blkOf] at hb⟩
theorem Own.push {k bytes id nb n m j:Nat} {σ σ1:Mem} {v:AV} {cs c:List AV} {K:AV->Mem->Prop} (h:Own k σ σ1 v cs n) (s:σ.Same σ1) {σ2:Mem} (hσ2:σ2=(σ1.bump j).put nb (some (.rw c))) (hnb:σ1.next<=nb) (hid:nb<id) (hm:m≠0) (hc:c.length=m*k)
 (h1:c.all AV.one=true) (h2:cs.all AV.one=true) (hr:(n+m)*bytes<=140737488355328/\n+m<=9223372036854775806) {c':Cap}
 (hk:∀ v' σ',Own k σ σ' v' (cs++c) (n+m)->σ.Same σ'->id<σ'.next->Mem.Only (blkOf v) σ1 σ'->(∀ b∈blkOf v',b∈blkOf v\/b=id)->K v' σ')(hlt:id<σ2.next):apW k bytes id σ2 v (.slice nb 0 m c') K:=by
 subst hσ2
 refine OwnS.append (n:=n) (m:=m) (cs:=cs) (c:=c) (h.1.keep fun b hb=>by rw [Mem.get_put_ne _ (by have:=(h.2 b hb).2;omega)];rfl) (fun K hK=>src_new (Mem.get_put_self _ _ _) hc rfl K hK) (fun h=>absurd h hm) hc h1 h2 hr (fun hb=>by have:=(h.2 _ hb).2;omega) ?_
 intro v' σ3 own3 hn3 hg3 hb3
 rw [Mem.next_put,Mem.next_bump] at hn3 hlt
 have o:Mem.Only (blkOf v) σ1 σ3:=⟨by omega,fun b hb hn=>by rw [hg3 b hn (by omega),Mem.get_put_ne _ (by omega)];rfl⟩
 refine hk v' σ3 ⟨own3,fun b hb=>?_⟩ ⟨Nat.le_trans s.next o.next,fun b hb=>?_⟩ (by omega) o hb3
 · rcases hb3 b hb with h' | rfl
   · have:=h.2 b h';omega
   · have:=s.next;omega
 · rw [o.get b (Nat.lt_of_lt_of_le hb s.next) fun h'=>by have:=h.2 b h';omega]
   exact s.get b hb
def RdS (k:Nat) (σ:Mem) (v:AV) (cs:List AV) (n:Nat):Prop:=
 (v=.nils/\n=0/\cs=[])\/∃ b c,v=.slice b 0 n c/\(∃ q,σ.get b=some q/\q.cellsR=some cs)/\cs.length=n*k
theorem OwnS.rd {k n:Nat} {σ:Mem} {v:AV} {cs:List AV} (h:OwnS k σ v cs n):RdS k σ v cs n:=by
 rcases h with h | ⟨b,h1,h2,h3⟩
 · exact .inl h
 · exact .inr ⟨b,_,h1,⟨_,h2,rfl⟩,h3⟩
theorem RdS.len {k n:Nat} {σ:Mem} {v:AV} {cs:List AV} (h:RdS k σ v cs n) {K:Int->Prop} (hk:K (n:Nat)):slenW v K:=by
 rcases h with ⟨rfl,rfl,rfl⟩ | ⟨b,c,rfl,_⟩<;>exact hk
theorem RdS.pos {k n:Nat} {σ:Mem} {v:AV} {cs:List AV} (h:RdS k σ v cs n) (hn:0<n):∃ b c,v=.slice b 0 n c/\(∃ q,σ.get b=some q/\q.cellsR=some cs)/\cs.length=n*k:=by
 rcases h with ⟨_,h,_⟩ | h
 · omega
 · exact h
theorem RdS.keep {k n:Nat} {σ σ':Mem} {v:AV} {cs:List AV} (h:RdS k σ v cs n) (hb:∀ b∈blkOf v,σ'.get b=σ.get b):RdS k σ' v cs n:=by
 rcases h with h | ⟨b,c,rfl,⟨q,h1,h2⟩,h3⟩
 · exact .inl h
 · exact .inr ⟨b,c,rfl,⟨q,(hb b (by simp [blkOf])).trans h1,h2⟩,h3⟩
theorem RdS.lt {k n:Nat} {σ:Mem} {v:AV} {cs:List AV} (h:RdS k σ v cs n) (live:σ.Live):∀ b∈blkOf v,b<σ.next:=by
 rcases h with ⟨rfl,_⟩ | ⟨b,c,rfl,⟨q,h1,h2⟩,h3⟩
 · intro b hb;simp [blkOf] at hb
 · intro c hc;simp [blkOf] at hc;subst hc;exact live.lt h1
theorem ldn_rd {σ:Mem} {b o n:Nat} {cs:List AV} {K:AV->Prop} (h:∃ q,σ.get b=some q/\q.cellsR=some cs) (hn:o+n<=cs.length) (hk:K (.agg ((cs.drop o).take n))):ldnW n σ (.ptr b o) K:=by
 obtain ⟨q,h1,h2⟩:=h
 exact ldnq h1 h2 hn hk
theorem Grow.same {o o':List Nat} {σ σ1 σ2:Mem} (h:Grow o o' σ1 σ2) (s:σ.Same σ1) (ho:∀ b∈o,σ.next<=b):σ.Same σ2/\∀ b∈o',σ.next<=b:=by
 refine ⟨⟨Nat.le_trans s.next h.only.next,fun b hb=>?_⟩,fun b hb=>?_⟩
 · refine (h.only.get b (Nat.lt_of_lt_of_le hb s.next) fun hm=>?_).trans (s.get b hb)
   have:=ho b hm;omega
 · rcases h.new b hb with h1 | h1
   · exact ho b h1
   · exact Nat.le_trans s.next h1
theorem setAt_all:∀ (vc pre l:List AV),l.length=vc.length->setAt (pre++l) pre.length vc=pre++vc
 | [],pre,l,h=>by
   obtain rfl:=List.length_eq_zero_iff.1 h
   rfl
 | c::cs,pre,[],h=>by simp at h
 | c::cs,pre,x::l,h=>by
   show setAt ((pre++x::l).set pre.length c) (pre.length+1) cs=_
   have e:(pre++x::l).set pre.length c=(pre++[c])++l:=by
    rw [List.set_append_right _ _ (Nat.le_refl _),Nat.sub_self];simp
   have:=setAt_all cs (pre++[c]) l (by simpa using h)
   rw [List.length_append] at this
   rw [e]
   rw [show (pre++[c])++cs=pre++c::cs from by simp] at this
   exact this
theorem setAt_whole {l vc:List AV} (h:l.length=vc.length):setAt l 0 vc=vc:=setAt_all vc [] l h
/-! ### Arguments -/
section
variable {P:Program} {σ:Mem}
end
end Go.Vit
end
section
namespace Go.Vit
def fc (L:List Int):Nat->Nat
 | 0=>0
 | n+1=>(fc L n+cN L n)*2
theorem fc_le (L:List Int):∀ n,fc L n+2*L.length<=L.length*2^(n+1)
 | 0=>by rw [fc];omega
 | n+1=>by
   have h1:=fc_le L n
   have h2:=cN_le L n
   rw [fc,Nat.pow_succ,<- Nat.mul_assoc]
   omega
theorem fc_bound {L:List Int} (hL:L.length<=288) {n:Nat} (hn:n<=15):fc L n<=288*65536:=by
 have h1:=fc_le L n
 have h2:2^(n+1)<=2^16:=pow_le (by omega)
 have h3:L.length*2^(n+1)<=288*2^16:=Nat.mul_le_mul hL h2
 omega
def cd (L:List Int) (i:Nat):Nat:=if 0<L.getD i 0 then fc L (L.getD i 0).toNat+cN (L.take i) (L.getD i 0).toNat else 0
def codes (L:List Int):List Int:=arr (fun i=>(cd L i:Nat)) L.length
theorem codes_len (L:List Int):(codes L).length=L.length:=arr_len _ _
theorem getD_of {L:List Int} {i:Nat} (h:i<L.length):L.getD i 0=L[i]:=by simp [List.getD,List.getElem?_eq_getElem h]
theorem cd_at {L:List Int} {i n:Nat} (h:i<L.length) (hn:L[i]=(n:Nat)) (h0:0<n):cd L i=fc L n+cN (L.take i) n:=by
 unfold cd
 rw [getD_of h,hn,if_pos (by omega),Int.toNat_natCast]
theorem cd_none {L:List Int} {i:Nat} (h:i<L.length) (hn:¬ 0<L[i]):cd L i=0:=by
 unfold cd
 rw [getD_of h,if_neg hn]
end Go.Vit
end
section
namespace Go.Vit
section
variable {α:Type} (key:α->Int)
def Stb (l l':List α):Prop:=l'.length=l.length/\∀ v:Int,l'.filter (fun x=>decide (key x=v))=l.filter (fun x=>decide (key x=v))
def Srt (l:List α):Prop:=l.Pairwise fun x y=>key x<=key y
variable {key}
theorem Stb.refl (l:List α):Stb key l l:=⟨rfl,fun _=>rfl⟩
theorem Stb.trans {a b c:List α} (h:Stb key a b) (g:Stb key b c):Stb key a c:=⟨g.1.trans h.1,fun v=>(g.2 v).trans (h.2 v)⟩
theorem Stb.append {a a' b b':List α} (h:Stb key a a') (g:Stb key b b'):Stb key (a++b) (a'++b'):=
 ⟨by rw [List.length_append,List.length_append,h.1,g.1],fun v=>by rw [List.filter_append,List.filter_append,h.2 v,g.2 v]⟩
theorem Stb.mem {a b:List α} (h:Stb key a b) (x:α):x∈b↔x∈a:=by
 have e:=h.2 (key x)
 have h1:x∈b.filter (fun y=>decide (key y=key x))↔x∈b:=by rw [List.mem_filter];simp
 have h2:x∈a.filter (fun y=>decide (key y=key x))↔x∈a:=by rw [List.mem_filter];simp
 rw [<- h1,<- h2,e]
theorem Stb.swap {u v:List α} (h:∀ x∈u,∀ y∈v,key y<key x):Stb key (u++v) (v++u):=by
 refine ⟨by rw [List.length_append,List.length_append,Nat.add_comm],fun k=>?_⟩
 rw [List.filter_append,List.filter_append]
 by_cases hu:u.filter (fun x=>decide (key x=k))=[]
 · rw [hu];simp
 · by_cases hv:v.filter (fun x=>decide (key x=k))=[]
   · rw [hv];simp
   · obtain ⟨x,hx⟩:=List.exists_mem_of_ne_nil _ hu
     obtain ⟨y,hy⟩:=List.exists_mem_of_ne_nil _ hv
     rw [List.mem_filter] at hx hy
     have h1:=of_decide_eq_true hx.2
     have h2:=of_decide_eq_true hy.2
     have:=h x hx.1 y hy.1
     omega
theorem Srt.append {a b:List α} (ha:Srt key a) (hb:Srt key b) (h:∀ x∈a,∀ y∈b,key x<=key y):Srt key (a++b):=List.pairwise_append.2 ⟨ha,hb,h⟩
theorem Srt.left {a b:List α} (h:Srt key (a++b)):Srt key a:=(List.pairwise_append.1 h).1
theorem Srt.right {a b:List α} (h:Srt key (a++b)):Srt key b:=(List.pairwise_append.1 h).2.1
theorem Srt.rel {a b:List α} (h:Srt key (a++b)):∀ x∈a,∀ y∈b,key x<=key y:=(List.pairwise_append.1 h).2.2
theorem merge_halves {A1 A2 B1 B2 L R:List α} (hA:Srt key (A1++A2)) (hB:Srt key (B1++B2)) (h1:∀ x∈A1,∀ y∈B2,key x<=key y) (h2:∀ x∈A2,∀ y∈B1,key y<key x)
 (sL:Stb key (A1++B1) L) (oL:Srt key L) (sR:Stb key (A2++B2) R) (oR:Srt key R):Srt key (L++R)/\Stb key ((A1++A2)++(B1++B2)) (L++R):=by
 refine ⟨oL.append oR fun x hx y hy=>?_,?_⟩
 · rw [sL.mem,List.mem_append] at hx
   rw [sR.mem,List.mem_append] at hy
   rcases hx with hx | hx<;>rcases hy with hy | hy
   · exact hA.rel x hx y hy
   · exact h1 x hx y hy
   · exact Int.le_of_lt (h2 y hy x hx)
   · exact hB.rel x hx y hy
 · have s:Stb key (A1++(A2++B1)++B2) (A1++(B1++A2)++B2):=((Stb.refl A1).append (Stb.swap h2)).append (Stb.refl B2)
   have t:=sL.append sR
   rw [show A1++A2++(B1++B2)=A1++(A2++B1)++B2 from by simp]
   rw [show A1++B1++(A2++B2)=A1++(B1++A2)++B2 from by simp] at t
   exact s.trans t
theorem Srt.lt_succ {l:List α} (h:Srt key l) (n:Int):l.filter (fun x=>decide (key x<n+1))=l.filter (fun x=>decide (key x<n))++l.filter (fun x=>decide (key x=n)):=by
 induction l with
 | nil=>rfl
 | cons x l ih=>
   have hx:∀ y∈l,key x<=key y:=(List.pairwise_cons.1 h).1
   have ih:=ih (List.pairwise_cons.1 h).2
   rcases Int.lt_trichotomy (key x) n with hlt | heq | hgt
   · rw [List.filter_cons_of_pos (by simp;omega),List.filter_cons_of_pos (by simp;omega),List.filter_cons_of_neg (by simp;omega),ih];rfl
   · have e:(x::l).filter (fun x=>decide (key x<n))=[]:=by
      rw [List.filter_eq_nil_iff]
      intro y hy
      rcases List.mem_cons.1 hy with rfl | hy
      · simp;omega
      · have:=hx y hy;simp;omega
     have e':l.filter (fun x=>decide (key x<n))=[]:=by
      rw [List.filter_eq_nil_iff]
      intro y hy
      have:=hx y hy;simp;omega
     rw [e,List.filter_cons_of_pos (by simp;omega),List.filter_cons_of_pos (by simp;omega),ih,e'];rfl
   · have e1:∀ p:α->Bool,(∀ y,p y=true->key y<=n)->(x::l).filter p=[]:=by
      intro p hp
      rw [List.filter_eq_nil_iff]
      intro y hy h'
      have h2:=hp y h'
      rcases List.mem_cons.1 hy with rfl | hy
      · omega
      · have:=hx y hy;omega
     rw [e1 _ fun y h=>by have:=of_decide_eq_true h;omega,e1 _ fun y h=>by have:=of_decide_eq_true h;omega,e1 _ fun y h=>by have:=of_decide_eq_true h;omega];rfl
theorem Srt.at {l:List α} (h:Srt key l) {n:Int} {k:Nat} {x:α} (hk:(l.filter (fun x=>decide (key x=n)))[k]? = some x):l[(l.filter (fun x=>decide (key x<n))).length+k]? = some x:=by
 have e:l=l.filter (fun x=>decide (key x<n+1))++l.filter (fun x=>!decide (key x<n+1)):=by
  clear hk
  induction l with
  | nil=>rfl
  | cons y l ih=>
    have hx:∀ z∈l,key y<=key z:=(List.pairwise_cons.1 h).1
    have ih:=ih (List.pairwise_cons.1 h).2
    by_cases hy:key y<n+1
    · rw [List.filter_cons_of_pos (by simp;omega),List.filter_cons_of_neg (by simp;omega),List.cons_append,<- ih]
    · have e':l.filter (fun x=>decide (key x<n+1))=[]:=by
       rw [List.filter_eq_nil_iff]
       intro z hz
       have:=hx z hz;simp;omega
      rw [e',List.nil_append] at ih
      rw [List.filter_cons_of_neg (by simp;omega),List.filter_cons_of_pos (by simp;omega),e',List.nil_append,<- ih]
 rw [h.lt_succ] at e
 have hlt:=(List.getElem?_eq_some_iff.1 hk).1
 generalize l.filter (fun x=>decide (key x<n))=a at e ⊢
 generalize l.filter (fun x=>decide (key x=n))=b at e hk hlt
 generalize l.filter (fun x=>!decide (key x<n+1))=c at e
 rw [e]
 rw [List.append_assoc,List.getElem?_append_right (Nat.le_add_right _ _),Nat.add_sub_cancel_left,List.getElem?_append_left hlt]
 exact hk
/-! ### Exchanging -/
theorem mid_get {L R:List α} {x:α} {n:Nat} (h:n=L.length):(L++x::R)[n]? = some x:=by subst h;simp
theorem swap2 {A B C:List α} {x y:α} {i j:Nat} (hi:i=A.length) (hj:j=i+1+B.length):((A++x::(B++y::C)).set i y).set j x=A++y::(B++x::C):=by
 subst hi
 rw [List.set_append_right _ _ (Nat.le_refl _),Nat.sub_self,List.set_cons_zero,List.set_append_right _ _ (by omega),show j-A.length=B.length+1 from by omega,List.set_cons_succ,List.set_append_right _ _ (Nat.le_refl _),Nat.sub_self,List.set_cons_zero]
theorem swap2' {A B C:List α} {x y:α} {i j:Nat} (hi:i=A.length) (hj:j=i+1+B.length):((A++x::(B++y::C)).set j x).set i y=A++y::(B++x::C):=by
 rw [List.set_comm _ _ (by omega),swap2 hi hj]
theorem split_at (l:List α) {k:Nat} (h:k<=l.length):∃ a b,l=a++b/\a.length=k:=⟨l.take k,l.drop k,(List.take_append_drop k l).symm,by rw [List.length_take];omega⟩
theorem split_one (l:List α) (h:l≠[]):∃ x r,l=x::r:=by cases l with
 | nil=>exact absurd rfl h
 | cons x r=>exact ⟨x,r,rfl⟩
theorem split_last (l:List α) (h:l≠[]):∃ r x,l=r++[x]:=⟨l.dropLast,l.getLast h,(List.dropLast_concat_getLast h).symm⟩
end
end Go.Vit
end
section
namespace Go.Vit
theorem Own.pushO {k bytes id nb n m j:Nat} {os:List Nat} {σ σ1:Mem} {v:AV} {cs c:List AV} {K:AV->Mem->Prop} (h:Own k σ σ1 v cs n) (s:Mem.Only os σ σ1) {σ2:Mem} (hσ2:σ2=(σ1.bump j).put nb (some (.rw c))) (hnb:σ1.next<=nb) (hid:nb<id) (hm:m≠0) (hc:c.length=m*k)
 (h1:c.all AV.one=true) (h2:cs.all AV.one=true) (hr:(n+m)*bytes<=140737488355328/\n+m<=9223372036854775806) {c':Cap}
 (hk:∀ v' σ',Own k σ σ' v' (cs++c) (n+m)->Mem.Only os σ σ'->id<σ'.next->Mem.Only (blkOf v) σ1 σ'->(∀ b∈blkOf v',b∈blkOf v\/b=id)->K v' σ')(hlt:id<σ2.next):apW k bytes id σ2 v (.slice nb 0 m c') K:=by
 subst hσ2
 refine OwnS.append (n:=n) (m:=m) (cs:=cs) (c:=c) (h.1.keep fun b hb=>by rw [Mem.get_put_ne _ (by have:=(h.2 b hb).2;omega)];rfl) (fun K hK=>src_new (Mem.get_put_self _ _ _) hc rfl K hK) (fun h=>absurd h hm) hc h1 h2 hr (fun hb=>by have:=(h.2 _ hb).2;omega) ?_
 intro v' σ3 own3 hn3 hg3 hb3
 rw [Mem.next_put,Mem.next_bump] at hn3 hlt
 have o:Mem.Only (blkOf v) σ1 σ3:=⟨by omega,fun b hb hn=>by rw [hg3 b hn (by omega),Mem.get_put_ne _ (by omega)];rfl⟩
 refine hk v' σ3 ⟨own3,fun b hb=>?_⟩ ⟨Nat.le_trans s.next o.next,fun b hb hn=>?_⟩ (by omega) o hb3
 · rcases hb3 b hb with h' | rfl
   · have:=h.2 b h';omega
   · have:=s.next;omega
 · rw [o.get b (Nat.lt_of_lt_of_le hb s.next) fun h'=>by have:=h.2 b h';omega]
   exact s.get b hb hn
theorem msum_eq_of {c c':Nat->Nat}:∀ {k:Nat},(∀ n<k,c' n=c n)->msum c' k=msum c k
 | 0,_=>rfl
 | k+1,h=>by rw [msum,msum,msum_eq_of fun n hn=>h n (by omega),h k (by omega)]
def syms (L:List Int) (i:Nat):List Int:=((List.range i).filter fun j=>decide (0<L.getD j 0)).map fun j=>((j:Nat):Int)
theorem syms_succ (L:List Int) (i:Nat):syms L (i+1)=syms L i++if 0<L.getD i 0 then [((i:Nat):Int)] else []:=by
 unfold syms
 rw [List.range_succ,List.filter_append,List.map_append]
 congr 1
 by_cases h:0<L.getD i 0
 · rw [if_pos h,List.filter_cons_of_pos (p:=fun j=>decide (0<L.getD j 0)) (decide_eq_true h)];rfl
 · rw [if_neg h,List.filter_cons_of_neg (p:=fun j=>decide (0<L.getD j 0)) (by simpa using h)];rfl
theorem syms_len {L:List Int}:∀ {i:Nat},i<=L.length->(syms L i).length=many (L.take i)
 | 0,_=>rfl
 | i+1,h=>by
   rw [syms_succ,List.length_append,syms_len (by omega),many_take_succ (by omega),getD_of (by omega)]
   split<;>rfl
theorem syms_mem {L:List Int} {i:Nat} {x:Int} (h:x∈syms L i):∃ j:Nat,x=j/\j<i/\0<L.getD j 0:=by
 unfold syms at h
 obtain ⟨j,hj,rfl⟩:=List.mem_map.1 h
 rw [List.mem_filter,List.mem_range] at hj
 exact ⟨j,rfl,hj.1,of_decide_eq_true hj.2⟩
def lkey (L:List Int) (x:Int):Int:=L.getD x.toNat 0
theorem syms_key {L:List Int} (n:Nat) (hn:0<n):∀ {i:Nat},i<=L.length->((syms L i).filter fun x=>decide (lkey L x=n)).length=cN (L.take i) n/\∀ j:Nat,j<i->L.getD j 0=n->((syms L i).filter fun x=>decide (lkey L x=n))[cN (L.take j) n]? = some (j:Int)
 | 0,_=>⟨by simp [syms,cN],fun j h=>by omega⟩
 | i+1,h=>by
   obtain ⟨h1,h2⟩:=syms_key (L:=L) n hn (i:=i) (by omega)
   rw [syms_succ,List.filter_append,cN_take_succ (by omega)]
   have hg:=getD_of (L:=L) (i:=i) (by omega)
   by_cases h0:0<L.getD i 0
   · rw [if_pos h0]
     by_cases hk:L.getD i 0=n
     · rw [List.filter_cons_of_pos (by simp [lkey];exact hk),if_pos (by rw [<- hg];exact ⟨h0,hk⟩)]
       refine ⟨by simp [h1],fun j hj he=>?_⟩
       rcases Nat.eq_or_lt_of_le (Nat.le_of_lt_succ hj) with rfl | hj
       · rw [<- h1];simp
       · have:=h2 j hj he
         rw [List.getElem?_append_left (List.getElem?_eq_some_iff.1 this).1];exact this
     · rw [List.filter_cons_of_neg (by simp [lkey];exact hk),if_neg (by rw [<- hg];exact fun h=>hk h.2)]
       refine ⟨by simp [h1],fun j hj he=>?_⟩
       rcases Nat.eq_or_lt_of_le (Nat.le_of_lt_succ hj) with rfl | hj
       · exact absurd he hk
       · rw [List.filter_nil,List.append_nil];exact h2 j hj he
   · rw [if_neg h0,if_neg (by rw [<- hg];exact fun h=>h0 h.1)]
     refine ⟨by simp [h1],fun j hj he=>?_⟩
     rcases Nat.eq_or_lt_of_le (Nat.le_of_lt_succ hj) with rfl | hj
     · omega
     · rw [List.filter_nil,List.append_nil];exact h2 j hj he
theorem syms_less {L:List Int} (hL:∀ x∈L,0<=x/\x<=15) (T:List Int) (s:Stb (lkey L) (syms L L.length) T):∀ n:Nat,(T.filter fun x=>decide (lkey L x<(n+1:Nat))).length=msum (cN L) (n+1):=by
 intro n
 have hT:∀ x∈T,0<lkey L x:=fun x hx=>by
  obtain ⟨j,rfl,_,h⟩:=syms_mem ((s.mem x).1 hx)
  exact h
 have key:∀ (n:Nat) (T:List Int),(∀ x∈T,0<lkey L x)->(T.filter fun x=>decide (lkey L x<(n+1:Nat))).length=msum (fun k=>(T.filter fun x=>decide (lkey L x=(k:Nat))).length) (n+1):=by
  intro n T hT
  induction n with
  | zero=>
    rw [List.filter_eq_nil_iff.2 fun x hx=>by have:=hT x hx;simp;omega]
    rw [msum,msum,List.filter_eq_nil_iff.2 fun x hx=>by have:=hT x hx;simp;omega];rfl
  | succ n ih=>
    rw [msum,<- ih]
    clear ih hT
    induction T with
    | nil=>rfl
    | cons x T ih=>
      rw [List.filter_cons,List.filter_cons,List.filter_cons]
      rcases Int.lt_trichotomy (lkey L x) (n+1:Nat) with h | h | h
      · rw [if_pos (by simp;omega),if_pos (by simp;omega),if_neg (by simp;omega),List.length_cons,List.length_cons,ih];omega
      · rw [if_pos (by simp;omega),if_neg (by simp;omega),if_pos (by simp;omega),List.length_cons,List.length_cons,ih];omega
      · rw [if_neg (by simp;omega),if_neg (by simp;omega),if_neg (by simp;omega),ih]
 rw [key n T hT]
 refine msum_eq_of fun k hk=>?_
 rw [s.2 k]
 rcases Nat.eq_zero_or_pos k with rfl | h0
 · rw [cN_zero]
   rw [List.filter_eq_nil_iff.2 fun x hx=>fun hd=>by
    obtain ⟨j,rfl,_,h⟩:=syms_mem hx
    have e:lkey L ((j:Nat):Int)=L.getD j 0:=rfl
    have:=of_decide_eq_true hd
    omega];rfl
 · rw [(syms_key k h0 (Nat.le_refl _)).1,List.take_length]
end Go.Vit
end
section
namespace Go.Vit
def fnd (L:List Int) (n c:Nat):Option Nat:=(List.range L.length).find? fun i=>decide (L.getD i 0=n/\cd L i=c)
theorem fnd_some {L:List Int} {n c i:Nat} (hi:i<L.length) (h:L.getD i 0=n/\cd L i=c) (hn:∀ j<i,¬ (L.getD j 0=n/\cd L j=c)):fnd L n c=some i:=by
 unfold fnd
 rw [List.find?_range_eq_some]
 exact ⟨by simpa using h,by simpa using hi,fun j hj=>by rw [decide_eq_false (hn j hj)];rfl⟩
theorem fnd_none {L:List Int} {n c:Nat} (hn:∀ j<L.length,¬ (L.getD j 0=n/\cd L j=c)):fnd L n c=none:=by
 unfold fnd
 rw [List.find?_range_eq_none]
 exact fun j hj=>by rw [decide_eq_false (hn j hj)];rfl
theorem nth_of {L:List Int} {n:Nat} (h0:0<n):∀ {i:Nat},i<=L.length->∀ k<cN (L.take i) n,∃ j<i,L.getD j 0=n/\cN (L.take j) n=k
 | 0,_,k,hk=>by simp [cN] at hk
 | i+1,hi,k,hk=>by
   have hil:i<L.length:=by omega
   rw [cN_take_succ hil] at hk
   by_cases h:0<L[i]/\L[i]=n
   · rw [if_pos h] at hk
     rcases Nat.eq_or_lt_of_le (Nat.le_of_lt_succ hk) with rfl | hk
     · exact ⟨i,by omega,by rw [getD_of hil];exact h.2,rfl⟩
     · obtain ⟨j,h1,h2⟩:=nth_of (L:=L) h0 (i:=i) (by omega) k hk
       exact ⟨j,by omega,h2⟩
   · rw [if_neg h] at hk
     obtain ⟨j,h1,h2⟩:=nth_of (L:=L) h0 (i:=i) (by omega) k (by omega)
     exact ⟨j,by omega,h2⟩
theorem cN_take_mono {L:List Int} {n:Nat} {i:Nat}:∀ {j:Nat},i<=j->j<=L.length->cN (L.take i) n<=cN (L.take j) n
 | 0,h,_=>by obtain rfl:i=0:=by omega
             exact Nat.le_refl _
 | j+1,h,hj=>by
   rcases Nat.eq_or_lt_of_le h with rfl | h
   · exact Nat.le_refl _
   · have:=cN_take_mono (L:=L) (n:=n) (i:=i) (j:=j) (by omega) (by omega)
     rw [cN_take_succ (by omega)];omega
theorem cN_take_lt {L:List Int} {n i j:Nat} (h0:0<n) (hij:i<j) (hj:j<=L.length) (hi:L.getD i 0=n):cN (L.take i) n<cN (L.take j) n:=by
 have h:=cN_take_mono (L:=L) (n:=n) (i:=i+1) (j:=j) (by omega) hj
 rw [cN_take_succ (by omega),if_pos (by rw [<- getD_of (L:=L) (by omega)];omega)] at h
 omega
theorem cd_of {L:List Int} {n i:Nat} (h0:0<n) (h:L.getD i 0=n):cd L i=fc L n+cN (L.take i) n:=by
 unfold cd
 rw [h,if_pos (by omega),Int.toNat_natCast]
theorem fnd_code {L:List Int} {n c:Nat} (h0:0<n) (h1:fc L n<=c) (h2:c-fc L n<cN L n):∃ i<L.length,L.getD i 0=n/\cN (L.take i) n=c-fc L n/\fnd L n c=some i:=by
 obtain ⟨i,hi,he,hk⟩:=nth_of (L:=L) h0 (i:=L.length) (Nat.le_refl _) (c-fc L n) (by rw [List.take_length];exact h2)
 refine ⟨i,hi,he,hk,fnd_some hi ⟨he,by rw [cd_of h0 he];omega⟩ ?_⟩
 rintro j hj ⟨e1,e2⟩
 rw [cd_of h0 e1] at e2
 have:=cN_take_lt h0 hj (by omega) e1
 omega
theorem fnd_no {L:List Int} {n c:Nat} (h0:0<n) (h:fc L n+cN L n<=c):fnd L n c=none:=by
 refine fnd_none ?_
 rintro j hj ⟨e1,e2⟩
 rw [cd_of h0 e1] at e2
 have:=cN_take_lt h0 hj (Nat.le_refl _) e1
 rw [List.take_length] at this
 omega
def dec (L:List Int) (s:ByteArray):Nat->Nat->Nat->Nat->Int×Int×Nat
 | 0,_,_,at'=>(0,12,at')
 | k+1,n,c,at'=>if 8*s.size<=at' then (0,3,at') else match fnd L n (2*c+bitAt s at') with
   | some i=>((i:Nat),0,at'+1)
   | none=>dec L s k (n+1) (2*c+bitAt s at') (at'+1)
def mostN (L:List Int):Nat:=if many L<2 then many L else 15
theorem dec_le {L:List Int} {s:ByteArray}:∀ (k n c:Nat) {at':Nat},at'<=8*s.size->(dec L s k n c at').2.2<=8*s.size
 | 0,_,_,_,h=>h
 | k+1,n,c,at',h=>by
   unfold dec
   split
   · exact h
   · split
     · show at'+1<=_;omega
     · exact dec_le k _ _ (by omega)
theorem room_many (L:List Int):room L<=many L*16384:=by
 unfold room many
 induction L with
 | nil=>simp
 | cons x L ih=>
   rw [List.map_cons,List.sum_cons,List.countP_cons,Nat.add_mul]
   by_cases h:0<x
   · rw [if_pos h,if_pos (decide_eq_true h)]
     have:2^(15-x).toNat<=2^14:=pow_le (by omega)
     omega
   · rw [if_neg h,if_neg (by simpa using h)];omega
end Go.Vit
end
section
namespace Go.Vit
theorem fc_up (L:List Int) (j:Nat):∀ k,(fc L j+cN L j)*2^(k+1)<=fc L (j+(k+1))
 | 0=>by rw [Nat.zero_add,Nat.pow_one,fc];exact Nat.le_refl _
 | k+1=>by
   have:=fc_up L j k
   rw [show j+(k+1+1)=(j+(k+1))+1 from rfl,fc,Nat.pow_succ,<- Nat.mul_assoc]
   exact Nat.mul_le_mul_right 2 (Nat.le_trans this (Nat.le_add_right _ _))
theorem kraft (L:List Int):∀ n,n<=15->(fc L n+cN L n)*2^(15-n)=wsum (cN L) (n+1)
 | 0,_=>by rw [fc,wsum,wsum,Nat.zero_add,Nat.zero_add]
 | n+1,h=>by
   have:=kraft L n (by omega)
   rw [wsum,<- this,fc,show 15-n=(15-(n+1))+1 from by omega,Nat.pow_succ,Nat.add_mul]
   congr 1
   rw [Nat.mul_assoc,Nat.mul_comm 2]
theorem chk_room {L:List Int} (h:chk L=0):lens L/\room L<=32768:=by
 unfold chk at h
 split at h
 · exact absurd h (by decide)
 · rename_i hl
   split at h
   · exact absurd h (by decide)
   · exact ⟨Classical.not_not.1 hl,by omega⟩
theorem code_lt {L:List Int} (hc:chk L=0) {n i:Nat} (h0:0<n) (hi:i<L.length) (h:L.getD i 0=n):cd L i<2^n/\n<=15:=by
 obtain ⟨hL,hr⟩:=chk_room hc
 have hn:n<=15:=by
  rw [getD_of hi] at h
  have:=hL.2 _ (List.getElem_mem hi)
  omega
 refine ⟨?_,hn⟩
 have h1:=cN_take_lt h0 hi (Nat.le_refl _) h
 rw [List.take_length] at h1
 have h2:=kraft L n hn
 have h3:=wsum_le (c:=cN L) (k:=n+1) (m:=16) (by omega)
 rw [(sums hL.2).2,<- h2] at h3
 have h4:(fc L n+cN L n)*2^(15-n)<=2^n*2^(15-n):=by
  rw [<- Nat.pow_add,show n+(15-n)=15 from by omega]
  exact Nat.le_trans h3 hr
 have h5:=Nat.le_of_mul_le_mul_right h4 (Nat.two_pow_pos _)
 rw [cd_of h0 h]
 omega
theorem msum_two {c:Nat->Nat} {a b k:Nat} (h1:a<b) (h2:b<k):c a+c b<=msum c k:=by
 have h3:=msum_le (c:=c) (k:=b+1) (m:=k) (by omega)
 have h4:=msum_le (c:=c) (k:=a+1) (m:=b) (by omega)
 rw [msum] at h3 h4
 omega
theorem len_most {L:List Int} (hc:chk L=0) {n i:Nat} (h0:0<n) (hi:i<L.length) (h:L.getD i 0=n):n<=mostN L:=by
 obtain ⟨hL,hr⟩:=chk_room hc
 have hn:=(code_lt hc h0 hi h).2
 have h1:=cN_take_lt h0 hi (Nat.le_refl _) h
 rw [List.take_length] at h1
 have hs:=(sums hL.2).1
 unfold mostN
 by_cases hm:many L<2
 · rw [if_pos hm]
   have hle:=msum_le (c:=cN L) (k:=n+1) (m:=16) (by omega)
   rw [msum,hs] at hle
   have hm1:many L=1:=by omega
   have hc1:cN L 1≠0:=fun e=>by
    have hr:=room_many L
    unfold chk at hc
    split at hc
    · exact absurd hc (by decide)
    · split at hc
      · exact absurd hc (by decide)
      · rw [if_pos ⟨by omega,by omega,fun h=>h.2 e⟩] at hc
        exact absurd hc (by decide)
   rcases Nat.lt_trichotomy n 1 with h' | rfl | h'
   · omega
   · omega
   · have:=msum_two (c:=cN L) h' (show n<16 by omega)
     omega
 · rw [if_neg hm];exact hn
end Go.Vit
end
section
namespace Go.Vit
def RdO (k:Nat) (σ:Mem) (v:AV) (cs:List AV) (n:Nat):Prop:=
 (v=.nils/\n=0/\cs=[])\/∃ b z c,v=.slice b z n c/\cs.length=n*k/\∃ q cells,σ.get b=some q/\q.cellsR=some cells/\(cells.drop z).take (n*k)=cs/\z+n*k<=cells.length
theorem RdO.mk {k n b:Nat} {c:Cap} {σ:Mem} {v:AV} {cs:List AV} (hv:v=.slice b 0 n c) (hg:∃ q,σ.get b=some q/\q.cellsR=some cs) (hl:cs.length=n*k):RdO k σ v cs n:=by
 obtain ⟨q,h1,h2⟩:=hg
 exact .inr ⟨b,0,c,hv,hl,q,cs,h1,h2,by rw [List.drop_zero,<- hl,List.take_length],by omega⟩
theorem OwnS.rdO {k n:Nat} {σ:Mem} {v:AV} {cs:List AV} (h:OwnS k σ v cs n):RdO k σ v cs n:=by
 rcases h with h | ⟨b,h1,h2,h3⟩
 · exact .inl h
 · exact .mk h1 ⟨_,h2,rfl⟩ h3
theorem RdS.o {k n:Nat} {σ:Mem} {v:AV} {cs:List AV} (h:RdS k σ v cs n):RdO k σ v cs n:=by
 rcases h with h | ⟨b,c,h1,h2,h3⟩
 · exact .inl h
 · exact .mk h1 h2 h3
theorem RdO.len {k n:Nat} {σ:Mem} {v:AV} {cs:List AV} (h:RdO k σ v cs n) {K:Int->Prop} (hk:K (n:Nat)):slenW v K:=by
 rcases h with ⟨rfl,rfl,rfl⟩ | ⟨b,z,c,rfl,_⟩<;>exact hk
theorem RdO.keep {k n:Nat} {σ σ':Mem} {v:AV} {cs:List AV} (h:RdO k σ v cs n) (hb:∀ b∈blkOf v,σ'.get b=σ.get b):RdO k σ' v cs n:=by
 rcases h with h | ⟨b,z,c,rfl,h3,q,cells,h1,h2⟩
 · exact .inl h
 · exact .inr ⟨b,z,c,rfl,h3,q,cells,(hb b (by simp [blkOf])).trans h1,h2⟩
theorem RdO.lt {k n:Nat} {σ:Mem} {v:AV} {cs:List AV} (h:RdO k σ v cs n) (live:σ.Live):∀ b∈blkOf v,b<σ.next:=by
 rcases h with ⟨rfl,_⟩ | ⟨b,z,c,rfl,h3,q,cells,h1,_⟩
 · intro b hb;simp [blkOf] at hb
 · intro c hc;simp [blkOf] at hc;subst hc;exact live.lt h1
theorem src_rdO {σ:Mem} {k n:Nat} {v:AV} {cs:List AV} (h:RdO k σ v cs n) (K:Nat->List AV->Prop) (hk:K n cs):srcW σ k v K:=by
 rcases h with ⟨rfl,rfl,rfl⟩ | ⟨b,z,c,rfl,h3,q,cells,h1,h2,h4,h5⟩
 · exact hk
 · refine opt (a:=σ.cells b z (n*k)) (v:=cs) ?_ hk
   unfold Mem.cells
   rw [h1,Option.bind_some,h2,Option.bind_some,if_pos h5,h4]
theorem ap_freshO {k bytes id nb n:Nat} {σ:Mem} {x:AV} {cs:List AV} {K:AV->Mem->Prop} (hb:σ.get nb=some (.rw [])) (hx:RdO k σ x cs n) (h1:cs.all AV.one=true) (hr:n*bytes<=140737488355328/\n<=9223372036854775806)
 (h0:n=0->K (.slice nb 0 0 (.ex 0)) σ) (hk:n≠0->K (.slice id 0 n (.op k)) (σ.put id (some (.rw cs)))):apW k bytes id σ (.slice nb 0 0 (.ex 0)) x K:=by
 unfold apW
 refine src_rdO hx _ ⟨h1,h0,fun hn=>⟨fun h=>absurd h (by omega),fun _=>⟨by rw [Nat.zero_add];exact hr,?_⟩⟩⟩
 refine opt (v:=[]) ?_ ⟨rfl,?_⟩
 · rw [Mem.cells_of hb];simp
 · rw [Nat.zero_add];exact hk hn
theorem RdO.iat {σ:Mem} {v:AV} {L:List Int} {n:Nat} (h:RdO 1 σ v (ic L) n) {i:Nat} {x:Int} (hx:L[i]? = some x) (hn:i<n) (_:i<L.length):∃ b z c,v=.slice b z n c/\∀ {K:AV->Prop} (m:Nat),K (.int .i64 x)->ldW (σ.bump m) (.ptr b (z+i)) K:=by
 rcases h with ⟨_,rfl,_⟩ | ⟨b,z,c,rfl,h3,q,cells,h1,h2,h4,h5⟩
 · omega
 · refine ⟨b,z,c,rfl,fun m hk=>ldq (σ:=σ.bump m) h1 ?_ hk⟩
   rw [h2]
   show cells[z+i]? = _
   have e:(ic L)[i]? = some (.int .i64 x):=by
    have hi:=(List.getElem?_eq_some_iff.1 hx).1
    rw [ic_get hi]
    rw [List.getElem?_eq_getElem hi] at hx
    injection hx with hx
    rw [hx]
   rw [<- h4,List.getElem?_take_of_lt (by omega),List.getElem?_drop] at e
   exact e
theorem RdO.at {σ:Mem} {v:AV} {L:List Int} (h:RdO 1 σ v (ic L) L.length) {i:Nat} (hi:i<L.length):∃ b z c,v=.slice b z L.length c/\∀ {K:AV->Prop} (n:Nat),K (.int .i64 L[i])->ldW (σ.bump n) (.ptr b (z+i)) K:=
 h.iat (List.getElem?_eq_getElem hi) hi hi
theorem RdO.take {σ:Mem} {b n k:Nat} {c c':Cap} {L:List Int} (h:RdO 1 σ (.slice b 0 n c) (ic L) n) (hk:k<=n):RdO 1 σ (.slice b 0 k c') (ic (L.take k)) k:=by
 rcases h with ⟨h,_⟩ | ⟨b',z,c',e,h3,q,cells,h1,h2,h4,h5⟩
 · exact absurd h (by simp)
 · injection e with e1 e2
   subst e1 e2
   rw [List.drop_zero] at h4
   have hl:(ic (L.take k))=(ic L).take k:=by unfold ic;rw [List.map_take]
   refine .inr ⟨b,0,_,rfl,?_,q,cells,h1,h2,?_,by omega⟩
   · rw [hl,List.length_take,h3];omega
   · rw [hl,<- h4,List.drop_zero,List.take_take,Nat.min_eq_left (by omega)]
     congr 1;omega
theorem RdO.drop {σ:Mem} {b n k:Nat} {c c':Cap} {L:List Int} (h:RdO 1 σ (.slice b 0 n c) (ic L) n) (hk:k<=n):RdO 1 σ (.slice b k (n-k) c') (ic (L.drop k)) (n-k):=by
 rcases h with ⟨h,_⟩ | ⟨b',z,c',e,h3,q,cells,h1,h2,h4,h5⟩
 · exact absurd h (by simp)
 · injection e with e1 e2
   subst e1 e2
   rw [List.drop_zero] at h4
   have hl:(ic (L.drop k))=(ic L).drop k:=by unfold ic;rw [List.map_drop]
   refine .inr ⟨b,k,_,rfl,?_,q,cells,h1,h2,?_,by omega⟩
   · rw [hl,List.length_drop,h3];omega
   · rw [hl,<- h4,List.drop_take]
     congr 1;omega
end Go.Vit
end
section
namespace Go.Vit
variable {P:Program} {σ:Mem}
end Go.Vit
end
section
namespace Go.Vit
inductive Pm where
 | coin (n:Int) (s:Nat)
 | pair (a b:Pm)
def Pm.wt:Pm->Int
 | .coin n _=>n
 | .pair a b=>a.wt+b.wt
def Pm.cnt (i:Nat):Pm->Nat
 | .coin _ s=>if s=i then 1 else 0
 | .pair a b=>a.cnt i+b.cnt i
def Pm.sz:Pm->Nat
 | .coin _ _=>1
 | .pair a b=>a.sz+b.sz
def Pm.syb (m:Nat):Pm->Prop
 | .coin _ s=>s<m
 | .pair a b=>a.syb m/\b.syb m
def pks:List Pm->List Pm
 | a::b::r=>.pair a b::pks r
 | _=>[]
theorem pks_len:∀ l:List Pm,(pks l).length=l.length / 2
 | []=>rfl
 | [_]=>by simp [pks]
 | a::b::r=>by rw [pks,List.length_cons,pks_len r,List.length_cons,List.length_cons];omega
theorem pks_all {p:Pm->Prop} {q:Pm->Prop} (h:∀ a b,p a->p b->q (.pair a b)):∀ {l:List Pm},(∀ x∈l,p x)->∀ x∈pks l,q x
 | [],_,x,hx=>by simp [pks] at hx
 | [_],_,x,hx=>by simp [pks] at hx
 | a::b::r,hl,x,hx=>by
   rw [pks] at hx
   rcases List.mem_cons.1 hx with rfl | hx
   · exact h a b (hl a (by simp)) (hl b (by simp))
   · exact pks_all h (l:=r) (fun y hy=>hl y (by simp [hy])) x hx
/-! ### What is sorted -/
section
variable {α:Type} {key:α->Int}
theorem ss_unique:∀ {C C':List α},Stb key C C'->Srt key C->Srt key C'->C'=C
 | [],C',h,_,_=>List.length_eq_zero_iff.1 h.1
 | x::C,[],h,_,_=>by have:=h.1;simp at this
 | x::C,y::C',h,h1,h2=>by
   have hx:x∈y::C':=(h.mem x).2 (by simp)
   have hy:y∈x::C:=(h.mem y).1 (by simp)
   have hxy:key x=key y:=by
    have a:key y<=key x:=by
     rcases List.mem_cons.1 hx with rfl | hx
     · exact Int.le_refl _
     · exact (List.pairwise_cons.1 h2).1 x hx
    have b:key x<=key y:=by
     rcases List.mem_cons.1 hy with rfl | hy
     · exact Int.le_refl _
     · exact (List.pairwise_cons.1 h1).1 y hy
    omega
   have he:=h.2 (key x)
   rw [List.filter_cons_of_pos (by simpa using hxy.symm),List.filter_cons_of_pos (by simp)] at he
   injection he with e1 e2
   subst e1
   have ht:Stb key C C':=by
    refine ⟨by have:=h.1;simpa using this,fun v=>?_⟩
    have hv:=h.2 v
    by_cases hk:key y=v
    · rw [List.filter_cons_of_pos (by simp [hk]),List.filter_cons_of_pos (by simp [hk])] at hv
      injection hv
    · rw [List.filter_cons_of_neg (by simp [hk]),List.filter_cons_of_neg (by simp [hk])] at hv
      exact hv
   rw [ss_unique ht (List.pairwise_cons.1 h1).2 (List.pairwise_cons.1 h2).2]
theorem ss_eq {X C C':List α} (h1:Stb key X C) (s1:Srt key C) (h2:Stb key X C') (s2:Srt key C'):C'=C:=
 ss_unique ⟨h2.1.trans h1.1.symm,fun v=>(h2.2 v).trans (h1.2 v).symm⟩ s1 s2
end
section
variable {α β:Type} {key:α->Int} {key':β->Int} {f:α->β}
theorem filter_map_key {l:List α} (h:∀ x∈l,key' (f x)=key x) (v:Int):(l.map f).filter (fun x=>decide (key' x=v))=(l.filter fun x=>decide (key x=v)).map f:=by
 induction l with
 | nil=>rfl
 | cons a l ih=>
   have ha:=h a (by simp)
   have ih:=ih fun x hx=>h x (by simp [hx])
   rw [List.map_cons]
   by_cases hk:key a=v
   · rw [List.filter_cons_of_pos (by simp [ha,hk]),List.filter_cons_of_pos (by simp [hk]),List.map_cons,ih]
   · rw [List.filter_cons_of_neg (by simp [ha,hk]),List.filter_cons_of_neg (by simp [hk]),ih]
theorem Stb.map {X C:List α} (h:Stb key X C) (hk:∀ x∈X,key' (f x)=key x):Stb key' (X.map f) (C.map f):=by
 refine ⟨by rw [List.length_map,List.length_map,h.1],fun v=>?_⟩
 rw [filter_map_key hk,filter_map_key fun x hx=>hk x ((h.mem x).1 hx),h.2 v]
theorem Srt.map {C:List α} (h:Srt key C) (hk:∀ x∈C,key' (f x)=key x):Srt key' (C.map f):=by
 unfold Srt at h ⊢
 rw [List.pairwise_map]
 exact h.imp_of_mem fun {a b} ha hb hab=>by rw [hk a ha,hk b hb];exact hab
end
def insA (x:Pm):List Pm->List Pm
 | []=>[x]
 | y::l=>if y.wt<=x.wt then y::insA x l else x::y::l
theorem insA_mem {x y:Pm}:∀ {l:List Pm},y∈insA x l↔y=x\/y∈l
 | []=>by simp [insA]
 | z::l=>by
   unfold insA
   split
   · rw [List.mem_cons,insA_mem (l:=l),List.mem_cons]
     constructor
     · rintro (h | h | h)
       · exact .inr (.inl h)
       · exact .inl h
       · exact .inr (.inr h)
     · rintro (h | h | h)
       · exact .inr (.inl h)
       · exact .inl h
       · exact .inr (.inr h)
   · rw [List.mem_cons]
theorem insA_ss (x:Pm):∀ {l:List Pm},Srt Pm.wt l->Stb Pm.wt (l++[x]) (insA x l)/\Srt Pm.wt (insA x l)
 | [],_=>⟨Stb.refl _,List.pairwise_singleton _ _⟩
 | y::l,h=>by
   have hy:=(List.pairwise_cons.1 h).1
   obtain ⟨h1,h2⟩:=insA_ss x (List.pairwise_cons.1 h).2
   unfold insA
   split
   · rename_i hle
     refine ⟨(Stb.refl [y]).append h1,List.pairwise_cons.2 ⟨fun z hz=>?_,h2⟩⟩
     rcases insA_mem.1 hz with rfl | hz
     · exact hle
     · exact hy z hz
   · rename_i hlt
     have t:Stb Pm.wt ((y::l)++[x]) ([x]++(y::l)):=Stb.swap fun a ha b hb=>by
      rw [List.mem_singleton] at hb
      subst hb
      rcases List.mem_cons.1 ha with rfl | ha
      · omega
      · have:=hy a ha;omega
     refine ⟨t,List.pairwise_cons.2 ⟨fun z hz=>?_,h⟩⟩
     rcases List.mem_cons.1 hz with rfl | hz
     · omega
     · have:=hy z hz;omega
def isort (X:List Pm):List Pm:=X.foldl (fun acc x=>insA x acc) []
theorem isort_ss (X:List Pm):Stb Pm.wt X (isort X)/\Srt Pm.wt (isort X):=by
 have:∀ (Y acc Z:List Pm),Stb Pm.wt Z acc->Srt Pm.wt acc->Stb Pm.wt (Z++Y) (Y.foldl (fun acc x=>insA x acc) acc)/\Srt Pm.wt (Y.foldl (fun acc x=>insA x acc) acc):=by
  intro Y
  induction Y with
  | nil=>intro acc Z h1 h2;rw [List.append_nil];exact ⟨h1,h2⟩
  | cons y Y ih=>
    intro acc Z h1 h2
    obtain ⟨h3,h4⟩:=insA_ss y h2
    have:=ih (insA y acc) (Z++[y]) ((h1.append (Stb.refl [y])).trans h3) h4
    rw [List.append_assoc,List.singleton_append] at this
    exact this
 exact this X [] [] (Stb.refl _) List.Pairwise.nil
theorem isort_eq {X C:List Pm} (h:Stb Pm.wt X C) (s:Srt Pm.wt C):C=isort X:=ss_eq (isort_ss X).1 (isort_ss X).2 h s
theorem isort_len (X:List Pm):(isort X).length=X.length:=(isort_ss X).1.1
theorem isort_mem {X:List Pm} {x:Pm}:x∈isort X↔x∈X:=(isort_ss X).1.mem x
/-! ### Rows -/
def rows (C:List Pm):Nat->List Pm
 | 0=>C
 | k+1=>isort (C++pks (rows C k))
theorem rows_len (C:List Pm):∀ (k c:Nat),C.length<=c*2^k->2*C.length<=(rows C k).length+c
 | 0,c,h=>by rw [rows];omega
 | k+1,c,h=>by
   have ih:=rows_len C k (2*c) (by rw [Nat.pow_succ] at h;rw [Nat.mul_comm 2 c,Nat.mul_assoc,Nat.mul_comm 2];exact h)
   rw [rows,isort_len,List.length_append,pks_len]
   omega
theorem rows_le (C:List Pm):∀ k,(rows C k).length<=2*C.length
 | 0=>by rw [rows];omega
 | k+1=>by
   have:=rows_le C k
   rw [rows,isort_len,List.length_append,pks_len]
   omega
theorem rows_all {C:List Pm} {p:Nat->Pm->Prop} (h0:∀ x∈C,∀ k,p k x) (hp:∀ k a b,p k a->p k b->p (k+1) (.pair a b)):∀ k,∀ x∈rows C k,p k x
 | 0,x,hx=>h0 x hx 0
 | k+1,x,hx=>by
   rw [rows,isort_mem,List.mem_append] at hx
   rcases hx with hx | hx
   · exact h0 x hx _
   · exact pks_all (p:=p k) (q:=p (k+1)) (hp k) (rows_all h0 hp k) x hx
def coinsTo (L:List Int) (i:Nat):List Pm:=((List.range i).filter fun j=>decide (0<L.getD j 0)).map fun j=>Pm.coin (L.getD j 0) j
theorem coinsTo_succ (L:List Int) (i:Nat):coinsTo L (i+1)=coinsTo L i++if 0<L.getD i 0 then [Pm.coin (L.getD i 0) i] else []:=by
 unfold coinsTo
 rw [List.range_succ,List.filter_append,List.map_append]
 by_cases h:0<L.getD i 0
 · rw [if_pos h,List.filter_cons_of_pos (by simpa using h)];rfl
 · rw [if_neg h,List.filter_cons_of_neg (by simpa using h)];rfl
theorem coinsTo_len (L:List Int) (i:Nat):(coinsTo L i).length<=i:=by
 unfold coinsTo
 rw [List.length_map]
 exact Nat.le_trans (List.length_filter_le _ _) (by rw [List.length_range];omega)
theorem coinsTo_mem {L:List Int} {i:Nat} {x:Pm} (h:x∈coinsTo L i):∃ j,j<i/\0<L.getD j 0/\x=.coin (L.getD j 0) j:=by
 unfold coinsTo at h
 rw [List.mem_map] at h
 obtain ⟨j,hj,rfl⟩:=h
 rw [List.mem_filter,List.mem_range] at hj
 exact ⟨j,hj.1,by simpa using hj.2,rfl⟩
def coinsOf (L:List Int):List Pm:=coinsTo L L.length
def sumC (i:Nat) (l:List Pm):Nat:=(l.map (Pm.cnt i)).sum
theorem sumC_append (i:Nat) (l m:List Pm):sumC i (l++m)=sumC i l+sumC i m:=by unfold sumC;rw [List.map_append,List.sum_append]
theorem sumC_one (i:Nat) (x:Pm):sumC i [x]=x.cnt i:=by simp [sumC]
def sumZ (l:List Pm):Nat:=(l.map Pm.sz).sum
theorem cnt_le (i:Nat):∀ x:Pm,x.cnt i<=x.sz
 | .coin _ s=>by unfold Pm.cnt Pm.sz;split<;>omega
 | .pair a b=>by unfold Pm.cnt Pm.sz;have:=cnt_le i a;have:=cnt_le i b;omega
def addc (A:List Int) (l:List Pm):List Int:=arr (fun i=>A.getD i 0+sumC i l) A.length
def limit (most:Nat) (L:List Int):List Int:=
 if (coinsOf L).length=1 then arr (fun i=>sumC i (coinsOf L)) L.length
 else arr (fun i=>sumC i ((rows (isort (coinsOf L)) (most-1)).take (2*(coinsOf L).length-2))) L.length
def badL (most:Int) (L:List Int):Prop:=most<1\/15<most\/288<L.length\/(∃ n∈L,n<0\/1000000000<n)\/2^most.toNat<(coinsOf L).length
end Go.Vit
end
section
namespace Go.Vit
theorem perm_sum {α:Type} (f:α->Nat) {l l':List α} (h:l.Perm l'):(l.map f).sum=(l'.map f).sum:=by
 induction h with
 | nil=>rfl
 | cons x _ ih=>simp only [List.map_cons,List.sum_cons,ih]
 | swap x y l=>simp only [List.map_cons,List.sum_cons];omega
 | trans _ _ ih1 ih2=>exact ih1.trans ih2
theorem insA_perm (x:Pm):∀ l:List Pm,(insA x l).Perm (x::l)
 | []=>.refl _
 | y::l=>by
   unfold insA
   split
   · exact ((insA_perm x l).cons y).trans (.swap x y l)
   · exact .refl _
theorem foldl_perm:∀ (X acc:List Pm),(X.foldl (fun acc x=>insA x acc) acc).Perm (X++acc)
 | [],acc=>.refl _
 | x::X,acc=>by
   rw [List.foldl_cons]
   refine (foldl_perm X _).trans ?_
   refine ((insA_perm x acc).append_left X).trans ?_
   exact List.perm_middle
theorem isort_perm (X:List Pm):(isort X).Perm X:=by
 have:=foldl_perm X []
 rw [List.append_nil] at this
 exact this
/-! ### Rows are merged -/
def mrg:List Pm->List Pm->List Pm
 | [],P=>P
 | C,[]=>C
 | a::C,b::P=>if a.wt<=b.wt then a::mrg C (b::P) else b::mrg (a::C) P
termination_by C P=>C.length+P.length
theorem mrg_nil (P:List Pm):mrg [] P=P:=by unfold mrg;rfl
theorem mrg_nil' (C:List Pm):mrg C []=C:=by cases C<;>(unfold mrg;rfl)
theorem mrg_cons (a b:Pm) (C P:List Pm):mrg (a::C) (b::P)=if a.wt<=b.wt then a::mrg C (b::P) else b::mrg (a::C) P:=by
 rw [mrg]
theorem mrg_ss:∀ (N:Nat) (C P:List Pm),C.length+P.length<=N->Srt Pm.wt C->Srt Pm.wt P->Stb Pm.wt (C++P) (mrg C P)/\Srt Pm.wt (mrg C P)
 | _,[],P,_,_,h2=>by rw [mrg_nil];exact ⟨Stb.refl _,h2⟩
 | _,a::C,[],_,h1,_=>by rw [mrg_nil',List.append_nil];exact ⟨Stb.refl _,h1⟩
 | 0,a::C,b::P,h,_,_=>by simp at h
 | N+1,a::C,b::P,h,h1,h2=>by
   have ha:=(List.pairwise_cons.1 h1).1
   have hb:=(List.pairwise_cons.1 h2).1
   simp only [List.length_cons] at h
   rw [mrg_cons]
   split
   · rename_i hle
     obtain ⟨t,s⟩:=mrg_ss N C (b::P) (by simp only [List.length_cons];omega) (List.pairwise_cons.1 h1).2 h2
     refine ⟨(Stb.refl [a]).append t,List.pairwise_cons.2 ⟨fun z hz=>?_,s⟩⟩
     have hz:=(t.mem z).1 hz
     rcases List.mem_append.1 hz with hz | hz
     · exact ha z hz
     · rcases List.mem_cons.1 hz with rfl | hz
       · exact hle
       · have:=hb z hz;omega
   · rename_i hlt
     obtain ⟨t,s⟩:=mrg_ss N (a::C) P (by simp only [List.length_cons];omega) h1 (List.pairwise_cons.1 h2).2
     refine ⟨?_,List.pairwise_cons.2 ⟨fun z hz=>?_,s⟩⟩
     · have sw:Stb Pm.wt ((a::C)++[b]) ([b]++(a::C)):=Stb.swap fun u hu v hv=>by
        rw [List.mem_singleton] at hv
        subst hv
        rcases List.mem_cons.1 hu with rfl | hu
        · omega
        · have:=ha u hu;omega
       have e:(a::C)++b::P=((a::C)++[b])++P:=by simp
       rw [e]
       refine (sw.append (Stb.refl P)).trans ?_
       rw [List.append_assoc]
       exact (Stb.refl [b]).append t
     · have hz:=(t.mem z).1 hz
       rcases List.mem_append.1 hz with hz | hz
       · rcases List.mem_cons.1 hz with rfl | hz
         · omega
         · have:=ha z hz;omega
       · exact hb z hz
theorem mrg_eq {C P:List Pm} (h1:Srt Pm.wt C) (h2:Srt Pm.wt P):mrg C P=isort (C++P):=
 isort_eq (mrg_ss _ C P (Nat.le_refl _) h1 h2).1 (mrg_ss _ C P (Nat.le_refl _) h1 h2).2
theorem mrg_len {C P:List Pm} (h1:Srt Pm.wt C) (h2:Srt Pm.wt P):(mrg C P).length=C.length+P.length:=by
 rw [mrg_eq h1 h2,isort_len,List.length_append]
theorem mrg_take:∀ (N:Nat) (C P:List Pm) (t:Nat),C.length+P.length<=N->t<=C.length+P.length->Srt Pm.wt C->Srt Pm.wt P ->
 ∃ c p,c+p=t/\c<=C.length/\p<=P.length/\((mrg C P).take t).Perm (C.take c++P.take p)/\(∀ x y,C[c]? = some x->p≠0->P[p-1]? = some y->y.wt<x.wt)
 | _,[],P,t,_,ht,_,_=>⟨0,t,by omega,Nat.le_refl _,by simpa using ht,by rw [mrg_nil];exact .refl _,fun x y h=>by simp at h⟩
 | _,a::C,[],t,_,ht,_,_=>⟨t,0,by omega,by simpa using ht,Nat.le_refl _,by rw [mrg_nil',List.take_zero,List.append_nil],fun x y _ h=>absurd rfl h⟩
 | 0,a::C,b::P,t,h,_,_,_=>by simp at h
 | N+1,a::C,b::P,0,_,_,_,_=>⟨0,0,rfl,Nat.zero_le _,Nat.zero_le _,by simp,fun x y _ h=>absurd rfl h⟩
 | N+1,a::C,b::P,t+1,h,ht,h1,h2=>by
   simp only [List.length_cons] at h ht
   have ha:=(List.pairwise_cons.1 h1).1
   have hb:=(List.pairwise_cons.1 h2).1
   rw [mrg_cons]
   split
   · rename_i hle
     obtain ⟨c,p,e,hc,hp,hperm,htie⟩:=mrg_take N C (b::P) t (by simp only [List.length_cons];omega) (by simp only [List.length_cons];omega) (List.pairwise_cons.1 h1).2 h2
     refine ⟨c+1,p,by omega,by simp only [List.length_cons];omega,hp,?_,fun x y hx hp0 hy=>htie x y (by simpa using hx) hp0 hy⟩
     rw [List.take_succ_cons,List.take_succ_cons,List.cons_append]
     exact hperm.cons a
   · rename_i hlt
     obtain ⟨c,p,e,hc,hp,hperm,htie⟩:=mrg_take N (a::C) P t (by simp only [List.length_cons];omega) (by simp only [List.length_cons];omega) h1 (List.pairwise_cons.1 h2).2
     refine ⟨c,p+1,by omega,hc,by simp only [List.length_cons];omega,?_,fun x y hx _ hy=>?_⟩
     · rw [List.take_succ_cons,List.take_succ_cons]
       exact (hperm.cons b).trans List.perm_middle.symm
     · rw [Nat.add_sub_cancel] at hy
       by_cases hp0:p=0
       · subst hp0
         simp only [List.getElem?_cons_zero,Option.some.injEq] at hy
         subst hy
         have hx:=List.mem_of_getElem? hx
         rcases List.mem_cons.1 hx with rfl | hx
         · omega
         · have:=ha x hx;omega
       · obtain ⟨q,rfl⟩:∃ q,p=q+1:=⟨p-1,by omega⟩
         exact htie x y hx hp0 (by simpa using hy)
/-! ### Pairs of what is sorted are sorted -/
theorem pks_get:∀ {l:List Pm} {i:Nat} {x:Pm},(pks l)[i]? = some x->∃ a b,l[2*i]? = some a/\l[2*i+1]? = some b/\x=.pair a b
 | [],i,x,h=>by simp [pks] at h
 | [_],i,x,h=>by simp [pks] at h
 | a::b::r,0,x,h=>by
   simp [pks] at h
   exact ⟨a,b,rfl,rfl,h.symm⟩
 | a::b::r,i+1,x,h=>by
   rw [pks,List.getElem?_cons_succ] at h
   obtain ⟨u,v,h1,h2,h3⟩:=pks_get h
   refine ⟨u,v,?_,?_,h3⟩
   · rw [show 2*(i+1)=(2*i+1)+1 from by omega,List.getElem?_cons_succ,List.getElem?_cons_succ];exact h1
   · rw [show 2*(i+1)+1=((2*i+1)+1)+1 from by omega,List.getElem?_cons_succ,List.getElem?_cons_succ];exact h2
theorem srt_get {l:List Pm} (h:Srt Pm.wt l) {i j:Nat} {x y:Pm} (hij:i<=j) (hx:l[i]? = some x) (hy:l[j]? = some y):x.wt<=y.wt:=by
 obtain ⟨h1,rfl⟩:=List.getElem?_eq_some_iff.1 hx
 obtain ⟨h2,rfl⟩:=List.getElem?_eq_some_iff.1 hy
 by_cases e:i=j
 · subst e;exact Int.le_refl _
 · exact (List.pairwise_iff_getElem.1 h) i j h1 h2 (by omega)
theorem pks_srt {l:List Pm} (h:Srt Pm.wt l):Srt Pm.wt (pks l):=by
 unfold Srt
 rw [List.pairwise_iff_getElem]
 intro i j h1 h2 hij
 obtain ⟨a,b,e1,e2,e3⟩:=pks_get (List.getElem?_eq_getElem h1)
 obtain ⟨a',b',e1',e2',e3'⟩:=pks_get (List.getElem?_eq_getElem h2)
 rw [e3,e3']
 have:=srt_get h (by omega) e1 e1'
 have:=srt_get h (by omega) e2 e2'
 show a.wt+b.wt<=a'.wt+b'.wt
 omega
theorem rows_srt {C:List Pm} (h:Srt Pm.wt C):∀ k,Srt Pm.wt (rows C k)
 | 0=>h
 | _+1=>(isort_ss _).2
theorem rows_mrg {C:List Pm} (h:Srt Pm.wt C) (k:Nat):rows C (k+1)=mrg C (pks (rows C k)):=(mrg_eq h (pks_srt (rows_srt h k))).symm
theorem pks_sum (f:Pm->Nat) (hf:∀ a b,f (.pair a b)=f a+f b):∀ {l:List Pm} {p:Nat},2*p<=l.length->((pks l |>.take p).map f).sum=((l.take (2*p)).map f).sum
 | _,0,_=>by simp
 | [],p+1,h=>by simp at h
 | [_],p+1,h=>by simp only [List.length_cons,List.length_nil] at h;omega
 | a::b::r,p+1,h=>by
   have ih:=pks_sum f hf (l:=r) (p:=p) (by simp only [List.length_cons] at h;omega)
   rw [pks,List.take_succ_cons,show 2*(p+1)=2*p+1+1 from by omega,List.take_succ_cons,List.take_succ_cons]
   simp only [List.map_cons,List.sum_cons,hf];omega
end Go.Vit
end
section
namespace Go.Vit
def vl:List Nat->Nat
 | []=>0
 | c::cs=>c*2^cs.length+vl cs
theorem vl_le {m:Nat}:∀ {cs:List Nat},(∀ c∈cs,c<=m)->vl cs+m<=m*2^cs.length
 | [],_=>by simp [vl]
 | c::cs,h=>by
   have ih:=vl_le (cs:=cs) fun x hx=>h x (by simp [hx])
   have hc:=Nat.mul_le_mul_right (2^cs.length) (h c (by simp))
   rw [vl,List.length_cons,Nat.pow_succ,<- Nat.mul_assoc]
   generalize m*2^cs.length=z at *
   omega
theorem lev {C:List Pm} (h:Srt Pm.wt C) (h0:∀ x∈C,0<x.wt):∀ (k t:Nat),t<=(rows C k).length->∃ cs:List Nat,cs.length=k+1/\(∀ i,sumC i ((rows C k).take t)=(cs.map fun c=>sumC i (C.take c)).sum)/\(∀ c∈cs,c<=C.length)/\cs.Pairwise (fun a b=>b<=a)/\vl cs=t*2^k/\(∀ x∈C.take (cs.headD 0),x∈(rows C k).take t)
 | 0,t,ht=>⟨[t],rfl,fun i=>by simp [rows],fun c hc=>by rw [List.mem_singleton] at hc;subst hc;exact ht,List.pairwise_singleton _ _,by simp [vl],fun x hx=>hx⟩
 | k+1,t,ht=>by
   have hs:=rows_srt h k
   have hP:=pks_srt hs
   have hlen:=mrg_len h hP
   rw [rows_mrg h k] at ht ⊢
   rw [hlen] at ht
   obtain ⟨c,p,e,hc,hp,hperm,htie⟩:=mrg_take _ C (pks (rows C k)) t (Nat.le_refl _) ht h hP
   rw [pks_len] at hp
   have h2p:2*p<=(rows C k).length:=by omega
   obtain ⟨cs,l1,l2,l3,l4,l5,l6⟩:=lev h h0 k (2*p) h2p
   have hpos:∀ x∈rows C k,0<x.wt:=rows_all (p:=fun _ x=>0<x.wt) (fun x hx _=>h0 x hx) (fun _ a b ha hb=>by show 0<a.wt+b.wt;omega) k
   have hsum:∀ i,sumC i ((mrg C (pks (rows C k))).take t)=sumC i (C.take c)+sumC i ((rows C k).take (2*p)):=by
    intro i
    have e1:sumC i ((mrg C (pks (rows C k))).take t)=sumC i (C.take c++(pks (rows C k)).take p):=perm_sum _ hperm
    have e2:sumC i ((pks (rows C k)).take p)=sumC i ((rows C k).take (2*p)):=pks_sum (Pm.cnt i) (fun a b=>rfl) h2p
    rw [e1,sumC_append,e2]
   have hmono:∀ c'∈cs,c'<=c:=by
    have hhead:cs.headD 0<=c:=by
     refine Nat.le_of_not_lt fun hlt=>?_
     have hin:C.take (cs.headD 0)≠[]/\cs.headD 0<=C.length:=by
      cases cs with
      | nil=>simp at l1
      | cons a cs=>
        have ha:=l3 a (by simp)
        simp only [List.headD_cons] at hlt ⊢
        exact ⟨fun hn=>by rw [List.take_eq_nil_iff] at hn;rcases hn with hn | hn;omega;subst hn;simp at ha;omega,ha⟩
     have hcl:c<C.length:=by omega
     have hmem:C[c]∈(rows C k).take (2*p):=l6 _ (by
      rw [List.mem_take_iff_getElem]
      exact ⟨c,by omega,rfl⟩)
     rw [List.mem_take_iff_getElem] at hmem
     obtain ⟨j,hj,ej⟩:=hmem
     have hp0:p≠0:=by omega
     have hpl:p-1<(pks (rows C k)).length:=by rw [pks_len];omega
     have htie:=htie _ _ (List.getElem?_eq_getElem hcl) hp0 (List.getElem?_eq_getElem hpl)
     obtain ⟨a,b,e1,e2,e3⟩:=pks_get (List.getElem?_eq_getElem hpl)
     rw [e3] at htie
     have h1:C[c].wt<=b.wt:=by
      rw [<- ej]
      exact srt_get hs (by omega) (List.getElem?_eq_getElem (by omega)) e2
     have ha:=hpos a (List.mem_of_getElem? e1)
     have:(Pm.pair a b).wt=a.wt+b.wt:=rfl
     omega
    cases cs with
    | nil=>intro c' hc';simp at hc'
    | cons a cs=>
      simp only [List.headD_cons] at hhead
      intro c' hc'
      rcases List.mem_cons.1 hc' with rfl | hc'
      · exact hhead
      · exact Nat.le_trans ((List.pairwise_cons.1 l4).1 c' hc') hhead
   refine ⟨c::cs,by rw [List.length_cons,l1],fun i=>?_,fun c' hc'=>?_,List.pairwise_cons.2 ⟨hmono,l4⟩,?_,fun x hx=>?_⟩
   · rw [hsum,l2,List.map_cons,List.sum_cons]
   · rcases List.mem_cons.1 hc' with rfl | hc'
     · exact hc
     · exact l3 c' hc'
   · rw [vl,l1,l5,<- e,Nat.add_mul,Nat.pow_succ,Nat.mul_comm 2 p,Nat.mul_assoc p 2,Nat.mul_comm 2]
   · rw [List.headD_cons] at hx
     exact hperm.mem_iff.2 (List.mem_append.2 (.inl hx))
def pw (cs:List Nat) (q:Nat):Nat:=match cs with
 | []=>0
 | c::cs=>(if q<c then 2^cs.length else 0)+pw cs q
def ln (cs:List Nat) (q:Nat):Nat:=cs.countP fun c=>decide (q<c)
theorem ln_cons (c:Nat) (cs:List Nat) (q:Nat):ln (c::cs) q=ln cs q+if q<c then 1 else 0:=by
 unfold ln;rw [List.countP_cons];simp
theorem ln_le (cs:List Nat) (q:Nat):ln cs q<=cs.length:=List.countP_le_length
theorem pw_ln {q:Nat}:∀ {cs:List Nat},cs.Pairwise (fun a b=>b<=a)->2^(cs.length-ln cs q)+pw cs q=2^cs.length
 | [],_=>by simp [pw,ln]
 | c::cs,h=>by
   have hp:=List.pairwise_cons.1 h
   have ih:=pw_ln (q:=q) hp.2
   have hl:=ln_le cs q
   rw [ln_cons,pw,List.length_cons]
   by_cases hq:q<c
   · rw [if_pos hq,if_pos hq,show cs.length+1-(ln cs q+1)=cs.length-ln cs q from by omega,Nat.pow_succ]
     omega
   · rw [if_neg hq,if_neg hq]
     have h0:ln cs q=0:=by
      unfold ln
      rw [List.countP_eq_zero]
      intro a ha
      have:=hp.1 a ha
      simp;omega
     rw [h0] at ih ⊢
     simp only [Nat.sub_zero,Nat.add_zero,Nat.zero_add] at ih ⊢
     omega
theorem msum_add (f g:Nat->Nat):∀ n,msum (fun q=>f q+g q) n=msum f n+msum g n
 | 0=>rfl
 | n+1=>by simp only [msum,msum_add f g n];omega
theorem msum_lt (a:Nat) {c:Nat}:∀ {n:Nat},msum (fun q=>if q<c then a else 0) n=min c n*a
 | 0=>by simp [msum]
 | n+1=>by
   rw [msum,msum_lt (n:=n)]
   by_cases h:n<c
   · rw [if_pos h,show min c (n+1)=min c n+1 from by omega,Nat.add_mul,Nat.one_mul]
   · rw [if_neg h,show min c (n+1)=min c n from by omega,Nat.add_zero]
theorem msum_pw {n:Nat}:∀ {cs:List Nat},(∀ c∈cs,c<=n)->msum (pw cs) n=vl cs
 | [],_=>by
   have:∀ n,msum (pw []) n=0:=by
    intro n
    induction n with
    | zero=>rfl
    | succ n ih=>rw [msum,ih];rfl
   exact this n
 | c::cs,h=>by
   have ih:=msum_pw (cs:=cs) fun x hx=>h x (by simp [hx])
   have:pw (c::cs)=fun q=>(if q<c then 2^cs.length else 0)+pw cs q:=rfl
   rw [this,msum_add,ih,msum_lt,Nat.min_eq_left (h c (by simp)),vl]
theorem msum_const (a:Nat):∀ n,msum (fun _=>a) n=n*a
 | 0=>by simp [msum]
 | n+1=>by rw [msum,msum_const a n,Nat.add_mul,Nat.one_mul]
theorem kraft_cs {n k:Nat} {cs:List Nat} (hn:1<=n) (hl:cs.length=k+1) (hp:cs.Pairwise fun a b=>b<=a) (hc:∀ c∈cs,c<=n) (hv:vl cs=(2*n-2)*2^k):msum (fun q=>2^(k+1-ln cs q)) n=2^(k+1):=by
 have h1:msum (fun q=>2^(k+1-ln cs q)+pw cs q) n=n*2^(k+1):=by
  rw [<- msum_const]
  congr 1
  funext q
  rw [<- hl]
  exact pw_ln hp
 have e:2*2^k=2^(k+1):=by rw [Nat.pow_succ,Nat.mul_comm]
 rw [msum_add,msum_pw hc,hv,show 2*n-2=(n-1)*2 from by omega,Nat.mul_assoc,e] at h1
 obtain ⟨m,rfl⟩:∃ m,n=m+1:=⟨n-1,by omega⟩
 rw [Nat.add_sub_cancel,Nat.add_mul,Nat.one_mul] at h1
 omega
theorem head_cs {n k:Nat} {cs:List Nat} (hn:2<=n) (hl:cs.length=k+1) (hp:cs.Pairwise fun a b=>b<=a) (hc:∀ c∈cs,c<=n) (hv:vl cs=(2*n-2)*2^k) {q:Nat} (hq:q<n):1<=ln cs q:=by
 cases cs with
 | nil=>simp at hl
 | cons c cs=>
   have hp':=List.pairwise_cons.1 hp
   have h1:∀ x∈c::cs,x<=c:=by
    intro x hx
    rcases List.mem_cons.1 hx with rfl | hx
    · exact Nat.le_refl _
    · exact hp'.1 x hx
   have h2:=vl_le h1
   rw [hv,hl,Nat.pow_succ,Nat.mul_comm (2^k) 2,<- Nat.mul_assoc] at h2
   have hk:=Nat.pow_pos (n:=k) (show 0<2 by decide)
   have:n<=c:=by
    refine Nat.le_of_not_lt fun hlt=>?_
    have:c*2*2^k<=(2*n-2)*2^k:=Nat.mul_le_mul_right _ (by omega)
    have hc0:c=0:=by omega
    subst hc0
    have:1*2^k<=(2*n-2)*2^k:=Nat.mul_le_mul_right _ (by omega)
    omega
   rw [ln_cons,if_pos (by omega)];omega
end Go.Vit
end
section
namespace Go.Vit
def Pm.sym:Pm->Nat
 | .coin _ s=>s
 | .pair _ _=>0
def Pm.isC (L:List Int):Pm->Prop
 | .coin n s=>s<L.length/\n=L.getD s 0/\0<n
 | .pair _ _=>False
theorem isC_cnt {L:List Int} {x:Pm} (h:x.isC L) (i:Nat):x.cnt i=if x.sym=i then 1 else 0:=by
 cases x with
 | coin n s=>rfl
 | pair a b=>exact h.elim
theorem sumC_none {L:List Int} {i:Nat}:∀ {l:List Pm},(∀ x∈l,x.isC L/\x.sym≠i)->sumC i l=0
 | [],_=>rfl
 | x::l,h=>by
   have hx:=h x (by simp)
   have ih:=sumC_none (l:=l) fun y hy=>h y (by simp [hy])
   unfold sumC at ih ⊢
   rw [List.map_cons,List.sum_cons,ih,isC_cnt hx.1,if_neg hx.2]
theorem sumC_take {L:List Int}:∀ {l:List Pm} {q c:Nat} {x:Pm},(∀ x∈l,x.isC L)->(l.map Pm.sym).Nodup->l[q]? = some x->sumC x.sym (l.take c)=if q<c then 1 else 0
 | [],q,c,x,_,_,h=>by simp at h
 | y::l,q,0,x,_,_,_=>by simp [sumC]
 | y::l,0,c+1,x,hc,hn,h=>by
   simp only [List.getElem?_cons_zero,Option.some.injEq] at h
   subst h
   rw [List.map_cons,List.nodup_cons] at hn
   have h0:sumC y.sym (l.take c)=0:=sumC_none fun z hz=>⟨hc z (by simp [List.mem_of_mem_take hz]),fun e=>hn.1 (by rw [<- e];exact List.mem_map_of_mem (List.mem_of_mem_take hz))⟩
   unfold sumC at h0 ⊢
   rw [List.take_succ_cons,List.map_cons,List.sum_cons,h0,isC_cnt (hc y (by simp)),if_pos rfl,if_pos (by omega)]
 | y::l,q+1,c+1,x,hc,hn,h=>by
   rw [List.getElem?_cons_succ] at h
   rw [List.map_cons,List.nodup_cons] at hn
   have ih:=sumC_take (c:=c) (fun z hz=>hc z (by simp [hz])) hn.2 h
   have hy:y.sym≠x.sym:=fun e=>hn.1 (by rw [e];exact List.mem_map_of_mem (List.mem_of_getElem? h))
   unfold sumC at ih ⊢
   rw [List.take_succ_cons,List.map_cons,List.sum_cons,ih,isC_cnt (hc y (by simp)),if_neg hy,Nat.zero_add]
   by_cases e:q<c
   · rw [if_pos e,if_pos (by omega)]
   · rw [if_neg e,if_neg (by omega)]
theorem coinsTo_isC {L:List Int} {i:Nat} (hi:i<=L.length):∀ x∈coinsTo L i,x.isC L:=by
 intro x hx
 obtain ⟨j,h1,h2,rfl⟩:=coinsTo_mem hx
 exact ⟨by omega,rfl,h2⟩
theorem coinsTo_sym (L:List Int) (i:Nat):(coinsTo L i).map Pm.sym=(List.range i).filter fun j=>decide (0<L.getD j 0):=by
 unfold coinsTo
 rw [List.map_map]
 exact List.map_id _
theorem coinsTo_nodup (L:List Int) (i:Nat):((coinsTo L i).map Pm.sym).Nodup:=by
 rw [coinsTo_sym]
 exact List.nodup_range.filter _
def srtC (L:List Int):List Pm:=isort (coinsOf L)
theorem srtC_isC (L:List Int):∀ x∈srtC L,x.isC L:=fun x hx=>coinsTo_isC (Nat.le_refl _) x (isort_mem.1 hx)
theorem srtC_nodup (L:List Int):((srtC L).map Pm.sym).Nodup:=((isort_perm _).map _).nodup_iff.2 (coinsTo_nodup L L.length)
theorem srtC_len (L:List Int):(srtC L).length=(coinsOf L).length:=isort_len _
theorem srtC_pos (L:List Int):∀ x∈srtC L,0<x.wt:=by
 intro x hx
 have h:=srtC_isC L x hx
 cases x with
 | coin n s=>exact h.2.2
 | pair a b=>exact h.elim
theorem coin_in {L:List Int} {i:Nat} (hi:i<L.length) (h:0<L.getD i 0):∃ q,∃ _:q<(srtC L).length,(srtC L)[q]=.coin (L.getD i 0) i:=by
 have:Pm.coin (L.getD i 0) i∈srtC L:=by
  unfold srtC
  rw [isort_mem]
  unfold coinsOf coinsTo
  rw [List.mem_map]
  exact ⟨i,by rw [List.mem_filter,List.mem_range];exact ⟨hi,by simpa using h⟩,rfl⟩
 obtain ⟨q,hq,e⟩:=List.getElem_of_mem this
 exact ⟨q,hq,e⟩
theorem arr_getD (f:Nat->Int) (n i:Nat):(arr f n).getD i 0=if i<n then f i else 0:=by
 by_cases h:i<n
 · rw [if_pos h,getD_of (by rw [arr_len];exact h)];simp [arr]
 · rw [if_neg h,List.getD_eq_getElem?_getD,List.getElem?_eq_none (by rw [arr_len];omega)];rfl
structure Lim (most:Nat) (L:List Int) (l:List Int) (cs:List Nat):Prop where
 len:cs.length=most
 dec:cs.Pairwise fun a b=>b<=a
 le:∀ c∈cs,c<=(coinsOf L).length
 at':∀ q (h:q<(srtC L).length),l.getD ((srtC L)[q]).sym 0=ln cs q
 no:∀ i,¬ 0<L.getD i 0->l.getD i 0=0
 sum:msum (fun q=>2^(most-ln cs q)) (coinsOf L).length=2^most
 pos:∀ q<(coinsOf L).length,1<=ln cs q
theorem ln_sum (q:Nat):∀ cs:List Nat,(cs.map fun c=>if q<c then 1 else 0).sum=ln cs q
 | []=>rfl
 | c::cs=>by rw [List.map_cons,List.sum_cons,ln_cons,ln_sum q cs,Nat.add_comm]
theorem zero_sum:∀ cs:List Nat,(cs.map fun _=>0).sum=0
 | []=>rfl
 | c::cs=>by rw [List.map_cons,List.sum_cons,zero_sum cs]
theorem limit_lim {most:Nat} {L:List Int} (h1:1<=most) (hn:2<=(coinsOf L).length) (h2:(coinsOf L).length<=2^most):∃ cs,Lim most L (limit most L) cs:=by
 obtain ⟨n,hne⟩:∃ n,(coinsOf L).length=n:=⟨_,rfl⟩
 have hs:Srt Pm.wt (srtC L):=(isort_ss _).2
 have hlen:=rows_len (srtC L) (most-1) 2 (by
  obtain ⟨m,rfl⟩:∃ m,most=m+1:=⟨most-1,by omega⟩
  rw [Nat.add_sub_cancel,srtC_len,Nat.mul_comm,<- Nat.pow_succ];exact h2)
 rw [srtC_len] at hlen
 obtain ⟨cs,l1,l2,l3,l4,l5,_⟩:=lev hs (srtC_pos L) (most-1) (2*n-2) (by omega)
 rw [srtC_len] at l3
 rw [hne] at l3
 have hl:limit most L=arr (fun i=>sumC i ((rows (srtC L) (most-1)).take (2*n-2))) L.length:=by
  unfold limit
  rw [if_neg (by omega),hne];rfl
 have hat:∀ q (h:q<(srtC L).length),sumC ((srtC L)[q]).sym ((rows (srtC L) (most-1)).take (2*n-2))=ln cs q:=by
  intro q hq
  rw [l2,List.map_congr_left (fun c _=>sumC_take (c:=c) (srtC_isC L) (srtC_nodup L) (List.getElem?_eq_getElem hq))]
  exact ln_sum q cs
 refine ⟨cs,by omega,l4,by rw [hne];exact l3,fun q h=>?_,fun i h=>?_,?_,fun q hq=>head_cs (by omega) l1 l4 l3 l5 (by omega)⟩
 · rw [hl,arr_getD,hat q h,if_pos]
   have:=srtC_isC L _ (List.getElem_mem h)
   cases e:(srtC L)[q] with
   | coin w s=>rw [e] at this;exact this.1
   | pair a b=>rw [e] at this;exact this.elim
 · rw [hl,arr_getD]
   split
   · rw [l2]
     have hz:∀ c,sumC i ((srtC L).take c)=0:=fun c=>sumC_none fun x hx=>by
      have hx:=srtC_isC L x (List.mem_of_mem_take hx)
      refine ⟨hx,fun e=>?_⟩
      cases x with
      | coin w s=>have:=hx.2;simp only [Pm.sym] at e;subst e;omega
      | pair a b=>exact hx.elim
     have:(cs.map fun c=>sumC i ((srtC L).take c)).sum=0:=by
      rw [List.map_congr_left (fun c _=>hz c)]
      exact zero_sum cs
     rw [this];rfl
   · rfl
 · have:=kraft_cs (n:=n) (k:=most-1) (by omega) l1 l4 l3 l5
   rw [show most-1+1=most from by omega] at this
   rw [hne];exact this
/-! ### The room that codes take -/
theorem room_arr (f:Nat->Int):∀ m,room (arr f m)=msum (fun i=>if 0<f i then 2^(15-f i).toNat else 0) m
 | 0=>rfl
 | m+1=>by
   have ih:=room_arr f m
   have e:arr f (m+1)=arr f m++[f m]:=by unfold arr;rw [List.range_succ,List.map_append];rfl
   rw [e,msum,<- ih]
   unfold room
   rw [List.map_append,List.sum_append];simp
theorem room_getD (l:List Int):room l=msum (fun i=>if 0<l.getD i 0 then 2^(15-l.getD i 0).toNat else 0) l.length:=by
 have:l=arr (fun i=>l.getD i 0) l.length:=by
  refine List.ext_getElem (by rw [arr_len]) fun i h1 h2=>?_
  simp [arr,List.getElem?_eq_getElem h1]
 have e:=room_arr (fun i=>l.getD i 0) l.length
 rw [<- this] at e
 exact e
theorem msum_coins (G:Nat->Nat) (L:List Int):∀ m,msum (fun i=>if 0<L.getD i 0 then G i else 0) m=((coinsTo L m).map fun x=>G x.sym).sum
 | 0=>rfl
 | m+1=>by
   rw [msum,msum_coins G L m,coinsTo_succ,List.map_append,List.sum_append]
   by_cases h:0<L.getD m 0
   · rw [if_pos h,if_pos h];simp [Pm.sym]
   · rw [if_neg h,if_neg h];simp
theorem sum_msum (F:Pm->Nat):∀ l:List Pm,(l.map F).sum=msum (fun q=>F (l.getD q (.coin 0 0))) l.length:=by
 intro l
 have:∀ (l:List Pm) (m:Nat),m<=l.length->((l.take m).map F).sum=msum (fun q=>F (l.getD q (.coin 0 0))) m:=by
  intro l m
  induction m with
  | zero=>intro _;simp [msum]
  | succ m ih=>
    intro h
    have hm:m<l.length:=by omega
    rw [msum,<- ih (by omega),List.take_succ_eq_append_getElem hm,List.map_append,List.sum_append]
    simp [List.getD,List.getElem?_eq_getElem hm]
 have:=this l l.length (Nat.le_refl _)
 rw [List.take_length] at this
 exact this
theorem msum_congr {f g:Nat->Nat}:∀ {n:Nat},(∀ q<n,f q=g q)->msum f n=msum g n
 | 0,_=>rfl
 | n+1,h=>by rw [msum,msum,msum_congr (n:=n) fun q hq=>h q (by omega),h n (by omega)]
theorem msum_mul (a:Nat) (f:Nat->Nat):∀ n,msum (fun q=>a*f q) n=a*msum f n
 | 0=>by simp [msum]
 | n+1=>by rw [msum,msum,msum_mul a f n,Nat.mul_add]
theorem lim_room {most:Nat} {L l:List Int} {cs:List Nat} (h:Lim most L l cs) (hl:l.length=L.length) (hm:most<=15):room l=32768:=by
 have hpos:∀ i,i<L.length->(0<l.getD i 0↔0<L.getD i 0):=by
  intro i hi
  constructor
  · intro h0
    refine Decidable.byContradiction fun hn=>?_
    have:=h.no i hn;omega
  · intro h0
    obtain ⟨q,hq,e⟩:=coin_in hi h0
    have h1:=h.at' q hq
    rw [e] at h1
    have h2:=h.pos q (by rw [<- srtC_len];exact hq)
    simp only [Pm.sym] at h1
    omega
 rw [room_getD,hl,msum_congr (g:=fun i=>if 0<L.getD i 0 then 2^(15-l.getD i 0).toNat else 0) fun i hi=>by
  by_cases h0:0<L.getD i 0
  · rw [if_pos h0,if_pos ((hpos i hi).2 h0)]
  · rw [if_neg h0,if_neg fun h=>h0 ((hpos i hi).1 h)],msum_coins (fun i=>2^(15-l.getD i 0).toNat) L L.length]
 have e1:((coinsTo L L.length).map fun x=>2^(15-l.getD x.sym 0).toNat).sum=((srtC L).map fun x=>2^(15-l.getD x.sym 0).toNat).sum:=perm_sum _ (isort_perm _).symm
 rw [e1,sum_msum,srtC_len,msum_congr (g:=fun q=>2^(15-most)*2^(most-ln cs q)) fun q hq=>?_,msum_mul,h.sum,<- Nat.pow_add,show 15-most+most=15 from by omega]
 have hq':q<(srtC L).length:=by rw [srtC_len];exact hq
 have e2:(srtC L).getD q (.coin 0 0)=(srtC L)[q]:=by simp [List.getD,List.getElem?_eq_getElem hq']
 have e3:=h.at' q hq'
 have e4:=ln_le cs q
 rw [h.len] at e4
 rw [e2,e3,<- Nat.pow_add]
 congr 1
 omega
end Go.Vit
end
section
namespace Go.Vit
/-! ### A greater row is lighter, thing by thing -/
/-! ### What a list of things weighs -/
end Go.Vit
end
section
namespace Go.Vit
theorem limit_length (most:Nat) (L:List Int):(limit most L).length=L.length:=by unfold limit;split<;>exact arr_len _ _
theorem coins_one {L:List Int} (h:(coinsOf L).length=1):∃ j,j<L.length/\0<L.getD j 0/\coinsOf L=[.coin (L.getD j 0) j]/\(∀ i<L.length,0<L.getD i 0->i=j):=by
 obtain ⟨t,ht⟩:=List.length_eq_one_iff.1 h
 obtain ⟨j,hj,h0,hjt⟩:=coinsTo_mem (L:=L) (i:=L.length) (x:=t) (by rw [show coinsTo L L.length=coinsOf L from rfl,ht];simp)
 refine ⟨j,hj,h0,by rw [ht,hjt],fun i hi h0'=>?_⟩
 have:Pm.coin (L.getD i 0) i∈coinsOf L:=by
  unfold coinsOf coinsTo
  rw [List.mem_map]
  exact ⟨i,by rw [List.mem_filter,List.mem_range];exact ⟨hi,by simpa using h0'⟩,rfl⟩
 rw [ht,hjt,List.mem_singleton] at this
 injection this
theorem coins_none {L:List Int} (h:(coinsOf L).length=0):∀ i<L.length,¬ 0<L.getD i 0:=by
 intro i hi h0
 have:Pm.coin (L.getD i 0) i∈coinsOf L:=by
  unfold coinsOf coinsTo
  rw [List.mem_map]
  exact ⟨i,by rw [List.mem_filter,List.mem_range];exact ⟨hi,by simpa using h0⟩,rfl⟩
 rw [List.length_eq_zero_iff.1 h] at this
 simp at this
theorem limit_one {most:Nat} {L:List Int} {j:Nat} (h:coinsOf L=[.coin (L.getD j 0) j]):limit most L=arr (fun i=>if j=i then 1 else 0) L.length:=by
 unfold limit
 rw [if_pos (by rw [h];rfl),h]
 refine arr_ext fun i _=>?_
 rw [sumC_one]
 show (((if j=i then 1 else 0:Nat)):Int)=_
 split<;>rfl
theorem limit_none {most:Nat} {L:List Int} (h:(coinsOf L).length=0):limit most L=arr (fun _=>0) L.length:=by
 unfold limit
 rw [if_neg (by omega),h]
 exact arr_ext fun i _=>by rw [List.take_zero];rfl
theorem limit_all {most:Nat} {L:List Int} (h1:1<=most) (h2:(coinsOf L).length<=2^most) {i:Nat} (hi:i<L.length) :
 (0<(limit most L).getD i 0↔0<L.getD i 0)/\0<=(limit most L).getD i 0/\(limit most L).getD i 0<=most/\∀ k<L.length,L.getD k 0<L.getD i 0->0<L.getD k 0->(limit most L).getD i 0<=(limit most L).getD k 0:=by
 by_cases hn:2<=(coinsOf L).length
 · obtain ⟨cs,lim⟩:=limit_lim h1 hn h2
   have hs:Srt Pm.wt (srtC L):=(isort_ss _).2
   by_cases h0:0<L.getD i 0
   · obtain ⟨q,hq,e⟩:=coin_in hi h0
     have e1:=lim.at' q hq
     rw [e] at e1
     simp only [Pm.sym] at e1
     have e2:=lim.pos q (by rw [<- srtC_len];exact hq)
     have e3:=ln_le cs q
     rw [lim.len] at e3
     refine ⟨⟨fun _=>h0,fun _=>by omega⟩,by omega,by omega,fun k hk hlt hk0=>?_⟩
     obtain ⟨q',hq',e'⟩:=coin_in hk hk0
     have e1':=lim.at' q' hq'
     rw [e'] at e1'
     simp only [Pm.sym] at e1'
     have hqq:q'<=q:=by
      refine Nat.le_of_not_lt fun hlt'=>?_
      have:=srt_get hs (Nat.le_of_lt hlt') (List.getElem?_eq_getElem hq) (List.getElem?_eq_getElem hq')
      rw [e,e'] at this
      simp only [Pm.wt] at this
      omega
     have:ln cs q<=ln cs q':=by
      unfold ln
      refine List.countP_mono_left fun c _ hc=>?_
      simp at hc ⊢;omega
     omega
   · have:=lim.no i h0
     exact ⟨⟨fun h=>by omega,fun h=>absurd h h0⟩,by omega,by omega,fun k hk hlt hk0=>by omega⟩
 · by_cases hn1:(coinsOf L).length=1
   · obtain ⟨j,hj,h0,hc,hu⟩:=coins_one hn1
     rw [limit_one hc,arr_getD,if_pos hi]
     by_cases e:j=i
     · subst e
       rw [if_pos rfl]
       exact ⟨⟨fun _=>h0,fun _=>by omega⟩,by omega,by omega,fun k hk hlt hk0=>by have:=hu k hk hk0;subst this;omega⟩
     · rw [if_neg e]
       have:¬ 0<L.getD i 0:=fun h=>e (hu i hi h).symm
       exact ⟨⟨fun h=>by omega,fun h=>absurd h this⟩,by omega,by omega,fun k hk hlt hk0=>by omega⟩
   · have h0:(coinsOf L).length=0:=by omega
     have:=coins_none h0 i hi
     rw [limit_none h0,arr_getD,if_pos hi]
     exact ⟨⟨fun h=>by omega,fun h=>absurd h this⟩,by omega,by omega,fun k hk hlt hk0=>by omega⟩
theorem many_arr (f:Nat->Int):∀ m,many (arr f m)=msum (fun i=>if 0<f i then 1 else 0) m
 | 0=>rfl
 | m+1=>by
   have ih:=many_arr f m
   have e:arr f (m+1)=arr f m++[f m]:=by unfold arr;rw [List.range_succ,List.map_append];rfl
   rw [e,msum,<- ih]
   unfold many
   rw [List.countP_append,List.countP_singleton];simp
theorem cN_arr (f:Nat->Int) (n:Nat):∀ m,cN (arr f m) n=msum (fun i=>if 0<f i/\f i=n then 1 else 0) m
 | 0=>rfl
 | m+1=>by
   have ih:=cN_arr f n m
   have e:arr f (m+1)=arr f m++[f m]:=by unfold arr;rw [List.range_succ,List.map_append];rfl
   rw [e,cN_append,msum,<- ih]
   unfold cN
   rw [List.countP_singleton];simp
theorem msum_ind (a:Nat) (j:Nat):∀ m,msum (fun i=>if j=i then a else 0) m=if j<m then a else 0
 | 0=>by simp [msum]
 | m+1=>by
   rw [msum,msum_ind a j m]
   by_cases h:j<m
   · rw [if_pos h,if_neg (by omega),if_pos (by omega)];omega
   · rw [if_neg h]
     by_cases h':j=m
     · rw [if_pos h',if_pos (by omega)];omega
     · rw [if_neg h',if_neg (by omega)]
theorem limit_chk {most:Nat} {L:List Int} (h1:1<=most) (h15:most<=15) (hl:L.length<=288) (h2:(coinsOf L).length<=2^most):chk (limit most L)=0:=by
 have hlen:=limit_length most L
 have hlens:lens (limit most L):=by
  refine ⟨by omega,fun x hx=>?_⟩
  obtain ⟨i,hi,rfl⟩:=List.getElem_of_mem hx
  have:=limit_all h1 h2 (i:=i) (by omega)
  rw [getD_of hi] at this
  omega
 unfold chk
 rw [if_neg (not_not_intro hlens)]
 by_cases hn:2<=(coinsOf L).length
 · obtain ⟨cs,lim⟩:=limit_lim h1 hn h2
   have hr:=lim_room lim hlen h15
   rw [hr,if_neg (by omega),if_neg (by omega)]
 · by_cases hn1:(coinsOf L).length=1
   · obtain ⟨j,hj,h0,hc,hu⟩:=coins_one hn1
     rw [limit_one hc,room_arr,many_arr,cN_arr,msum_congr (g:=fun i=>if j=i then 16384 else 0) fun i _=>by by_cases e:j=i<;>simp [e],msum_congr (f:=fun i=>if 0<(if j=i then (1:Int) else 0) then 1 else 0) (g:=fun i=>if j=i then 1 else 0) fun i _=>by by_cases e:j=i<;>simp [e],msum_congr (f:=fun i=>if 0<(if j=i then (1:Int) else 0)/\(if j=i then (1:Int) else 0)=(1:Nat) then 1 else 0) (g:=fun i=>if j=i then 1 else 0) fun i _=>by by_cases e:j=i<;>simp [e],msum_ind,msum_ind,if_pos hj,if_pos hj]
     decide
   · have h0:(coinsOf L).length=0:=by omega
     rw [limit_none h0,room_arr,many_arr]
     have z:∀ m a,msum (fun _=>if (0:Int)<0 then a else 0) m=0:=by
      intro m a
      rw [msum_congr (g:=fun _=>0) fun i _=>if_neg (by omega),msum_const];omega
     rw [z,z]
     rw [if_neg (by omega),if_neg (by omega)]
end Go.Vit
end
section
set_option linter.unusedSimpArgs false
namespace Go.Vit
theorem RdO.rd {σ σ':Mem} {v:AV} {L:List Int} (h:RdO 1 σ v (ic L) L.length) (hb:∀ b∈blkOf v,σ'.get b=σ.get b) {i:Nat} (hi:i<L.length) {x:Int} (hx:x=(i:Nat)) {K:Int->Prop} (hk:K (L.getD i 0)):idxW 1 v x fun p=>ldI σ' p K:=by
 obtain ⟨b,z,c,rfl,hg⟩:=(h.keep hb).at hi
 subst hx
 refine And.intro (show (0:Int)<=(i:Nat)/\((i:Nat):Int)<(L.length:Nat) by omega) ?_
 rw [Int.toNat_natCast,Nat.mul_one]
 rw [getD_of hi] at hk
 exact hg (K:=fun a=>castI .i64 a K) 0 hk
theorem tpI_of {l:List AV} {i:Nat} {x:Int} {K:Int->Prop} (h:l[i]? = some (.int .i64 x)) (hk:K x):tpI (.tup l) i K:=by
 show optW l[i]? _
 rw [h]
 exact hk
theorem tupW_of {l:List AV} {i:Nat} {x:AV} {K:AV->Prop} (h:l[i]? = some x) (hk:K x):tupW (.tup l) i K:=by
 show optW l[i]? _
 rw [h]
 exact hk
end Go.Vit
end
section
namespace Go.Vit
def RdX (σ:Mem) (v:AV) (L:List Int):Prop:=∃ b,v=.slice b 0 L.length (.ex L.length)/\σ.get b=some (.rw (ic L))
def CapOk (c:Cap) (n:Nat):Prop:=c=.op 1\/∃ k,n<=k/\c=.ex k
def RdC (σ:Mem) (v:AV) (L:List Int):Prop:=(v=.nils/\L=[])\/∃ b c M,v=.slice b 0 L.length c/\CapOk c L.length/\σ.get b=some (.rw (ic M))/\L.length<=M.length/\M.take L.length=L
theorem RdX.c {σ:Mem} {v:AV} {L:List Int} (h:RdX σ v L):RdC σ v L:=by
 obtain ⟨b,h1,h2⟩:=h
 exact .inr ⟨b,_,L,h1,.inr ⟨_,Nat.le_refl _,rfl⟩,h2,Nat.le_refl _,List.take_length⟩
theorem RdX.s {σ:Mem} {v:AV} {L:List Int} (h:RdX σ v L):RdS 1 σ v (ic L) L.length:=by
 obtain ⟨b,h1,h2⟩:=h
 exact .inr ⟨b,_,h1,⟨_,h2,rfl⟩,by rw [ic_len,Nat.mul_one]⟩
theorem OwnS.c {σ:Mem} {v:AV} {L:List Int} {n:Nat} (h:OwnS 1 σ v (ic L) n):RdC σ v L:=by
 rcases h with ⟨h1,h2,h3⟩ | ⟨b,h1,h2,h3⟩
 · refine .inl ⟨h1,?_⟩
   cases L with
   | nil=>rfl
   | cons a L=>simp [ic] at h3
 · rw [ic_len,Nat.mul_one] at h3
   subst h3
   exact .inr ⟨b,_,L,h1,.inl rfl,h2,Nat.le_refl _,List.take_length⟩
theorem RdC.o {σ:Mem} {v:AV} {L:List Int} (h:RdC σ v L):RdO 1 σ v (ic L) L.length:=by
 rcases h with ⟨h1,h2⟩ | ⟨b,c,M,h1,_,h2,h3,h4⟩
 · subst h2;exact .inl ⟨h1,rfl,rfl⟩
 · refine .inr ⟨b,0,c,h1,by rw [ic_len,Nat.mul_one],_,ic M,h2,rfl,?_,by rw [ic_len];omega⟩
   rw [List.drop_zero,Nat.mul_one]
   unfold ic
   rw [<- List.map_take,h4]
theorem RdC.keep {σ σ':Mem} {v:AV} {L:List Int} (h:RdC σ v L) (hb:∀ b∈blkOf v,σ'.get b=σ.get b):RdC σ' v L:=by
 rcases h with h | ⟨b,c,M,rfl,h1,h2,h3⟩
 · exact .inl h
 · exact .inr ⟨b,c,M,rfl,h1,(hb b (by simp [blkOf])).trans h2,h3⟩
theorem RdX.keep {σ σ':Mem} {v:AV} {L:List Int} (h:RdX σ v L) (hb:∀ b∈blkOf v,σ'.get b=σ.get b):RdX σ' v L:=by
 obtain ⟨b,rfl,h2⟩:=h
 exact ⟨b,rfl,(hb b (by simp [blkOf])).trans h2⟩
theorem RdC.one {σ:Mem} {v:AV} {L:List Int} (h:RdC σ v L):v.one=true:=by
 rcases h with ⟨rfl,_⟩ | ⟨b,c,M,rfl,_⟩<;>rfl
theorem RdC.cut {σ:Mem} {v:AV} {L:List Int} {m:Nat} {x:Int} (h:RdC σ v L) (hm:m<=L.length) (hx:x=(m:Nat)) {K:AV->Prop} (hk:∀ w,RdC σ w (L.take m)->blkOf w=blkOf v->K w):slcW 1 v none (some x) K:=by
 subst hx
 rcases h with ⟨rfl,rfl⟩ | ⟨b,c,M,rfl,hc,hg,h3,h4⟩
 · obtain rfl:m=0:=by simpa using hm
   refine And.intro (show (0:Int)<=0/\(0:Int)<=((0:Nat):Int)/\((0:Nat):Int)<=((0:Nat):Int) by decide) ?_
   exact hk _ (.inl ⟨rfl,rfl⟩) rfl
 · have hle:L.length<=c.least L.length:=by
    rcases hc with rfl | ⟨k,hk',rfl⟩
    · exact Nat.le_refl _
    · exact hk'
   refine And.intro ⟨by rcases hc with rfl | ⟨k,_,rfl⟩<;>rfl,Int.le_refl _,show (0:Int)<=((m:Nat):Int) by omega,show ((m:Nat):Int)<=((c.least L.length:Nat):Int) by omega⟩ ?_
   show K (.slice b (0+(0:Int).toNat*1) (((m:Nat):Int).toNat-(0:Int).toNat) (c.cut false (0:Int).toNat (c.least L.length)))
   rw [Int.toNat_natCast,Int.toNat_zero,Nat.zero_mul,Nat.sub_zero]
   refine hk _ (.inr ⟨b,_,M,by rw [List.length_take,Nat.min_eq_left hm],?_,hg,by rw [List.length_take];omega,?_⟩) rfl
   · rw [List.length_take]
     rcases hc with rfl | ⟨k,hk',rfl⟩
     · exact .inl rfl
     · exact .inr ⟨k,by omega,rfl⟩
   · rw [List.length_take,<- h4,List.take_take]
     congr 1
     rw [h4,Nat.min_eq_left hm]
def told (least:Nat) (L:List Int):Nat->List Int
 | 0=>L.take 0
 | n+1=>if least<n+1/\L.getD n 0=0 then told least L n else L.take (n+1)
def tld (least:Nat) (L:List Int):List Int:=told least L L.length
end Go.Vit
end
section
namespace Go.Vit
def addS (A:List Int) (i:Nat):List Int:=A.set i (A.getD i 0+1)
theorem addS_len (A:List Int) (i:Nat):(addS A i).length=A.length:=by unfold addS;rw [List.length_set]
def bdL (A:List Int) (m:Int):Prop:=∀ x∈A,0<=x/\x<=m
theorem bdL.get {A:List Int} {m:Int} (h:bdL A m) (hm:0<=m) (i:Nat):0<=A.getD i 0/\A.getD i 0<=m:=by
 by_cases hi:i<A.length
 · rw [getD_of hi];exact h _ (List.getElem_mem hi)
 · rw [List.getD_eq_getElem?_getD,List.getElem?_eq_none (by omega)]
   exact ⟨Int.le_refl _,hm⟩
theorem bdL.add {A:List Int} {m:Int} (h:bdL A m) (hm:0<=m) (i:Nat):bdL (addS A i) (m+1):=by
 intro x hx
 unfold addS at hx
 rcases List.mem_or_eq_of_mem_set hx with hx | rfl
 · have:=h x hx;omega
 · have:=h.get hm i;omega
theorem bdL.mono {A:List Int} {m n:Int} (h:bdL A m) (hmn:m<=n):bdL A n:=fun x hx=>⟨(h x hx).1,Int.le_trans (h x hx).2 hmn⟩
theorem not_badL {most:Nat} {A:List Int} {m:Int} (h1:1<=most) (h2:most<=15) (h3:A.length<=288) (h4:bdL A m) (h5:m<=1000000000) (h6:A.length<=2^most):¬ badL (most:Nat) A:=by
 rintro (h | h | h | ⟨x,hx,h⟩ | h)
 · omega
 · omega
 · omega
 · have:=h4 x hx;omega
 · have:=coinsTo_len A A.length
   rw [Int.toNat_natCast] at h
   have:(coinsOf A).length<=A.length:=this
   omega
theorem coins_le (A:List Int):(coinsOf A).length<=A.length:=coinsTo_len A A.length
/-! ### Lists without the last zeros -/
theorem told_split {least:Nat} {L:List Int}:∀ {n:Nat},n<=L.length->∃ m,m<=n/\told least L n=L.take m/\(min least n<=m)/\L.take n=L.take m++List.replicate (n-m) 0
 | 0,_=>⟨0,Nat.le_refl _,rfl,by omega,by simp⟩
 | n+1,h=>by
   unfold told
   by_cases hc:least<n+1/\L.getD n 0=0
   · rw [if_pos hc]
     obtain ⟨m,h1,h2,h3,h4⟩:=told_split (least:=least) (L:=L) (n:=n) (by omega)
     refine ⟨m,by omega,h2,by omega,?_⟩
     have hnL:n<L.length:=by omega
     have e:L[n]=0:=by rw [<- getD_of hnL];exact hc.2
     rw [List.take_succ_eq_append_getElem hnL,h4,List.append_assoc]
     congr 1
     rw [e,show n+1-m=(n-m)+1 from by omega,List.replicate_succ']
   · rw [if_neg hc]
     exact ⟨n+1,Nat.le_refl _,rfl,by omega,by simp⟩
theorem tld_split (least:Nat) (L:List Int):∃ k,L=tld least L++List.replicate k 0/\min least L.length<=(tld least L).length:=by
 obtain ⟨m,h1,h2,h3,h4⟩:=told_split (least:=least) (L:=L) (n:=L.length) (Nat.le_refl _)
 rw [List.take_length] at h4
 refine ⟨L.length-m,?_,?_⟩
 · show L=told least L L.length++_
   rw [h2];exact h4
 · show _<=(told least L L.length).length
   rw [h2,List.length_take];omega
theorem room_append (L M:List Int):room (L++M)=room L+room M:=by unfold room;rw [List.map_append,List.sum_append]
theorem room_zeros:∀ k,room (List.replicate k 0)=0
 | 0=>rfl
 | k+1=>by
   have ih:=room_zeros k
   unfold room at ih ⊢
   rw [List.replicate_succ,List.map_cons,List.sum_cons,ih];rfl
theorem many_zeros:∀ k,many (List.replicate k 0)=0
 | 0=>rfl
 | k+1=>by
   have ih:=many_zeros k
   unfold many at ih ⊢
   rw [List.replicate_succ,List.countP_cons,ih];rfl
theorem cN_zeros (n:Nat):∀ k,cN (List.replicate k 0) n=0
 | 0=>rfl
 | k+1=>by
   have ih:=cN_zeros n k
   rw [List.replicate_succ,cN_cons,ih,if_neg (by omega)]
theorem chk_zeros {L:List Int} {k:Nat} (h:chk (L++List.replicate k 0)=0):chk L=0:=by
 unfold chk at h ⊢
 by_cases hl:lens (L++List.replicate k 0)
 · have hl':lens L:=⟨by have:=hl.1;rw [List.length_append] at this;omega,fun x hx=>hl.2 x (List.mem_append.2 (.inl hx))⟩
   rw [if_neg (not_not_intro hl)] at h
   rw [if_neg (not_not_intro hl')]
   have hm:many (L++List.replicate k 0)=many L:=by
    have:many (L++List.replicate k 0)=many L+many (List.replicate k 0):=by unfold many;rw [List.countP_append]
    rw [this,many_zeros];rfl
   rw [room_append,room_zeros,hm,cN_append,cN_zeros] at h
   exact h
 · rw [if_pos hl] at h
   exact absurd h (by decide)
theorem chk_tld {least:Nat} {L:List Int} (h:chk L=0):chk (tld least L)=0:=by
 obtain ⟨k,e,_⟩:=tld_split least L
 rw [e] at h
 exact chk_zeros h
theorem tld_mem {least:Nat} {L:List Int} {x:Int} (h:x∈tld least L):x∈L:=by
 obtain ⟨k,e,_⟩:=tld_split least L
 rw [e];exact List.mem_append.2 (.inl h)
theorem tld_len (least:Nat) (L:List Int):(tld least L).length<=L.length:=by
 obtain ⟨k,e,_⟩:=tld_split least L
 have:=congrArg List.length e
 rw [List.length_append] at this;omega
theorem tld_ge {least:Nat} {L:List Int} (h:least<=L.length):least<=(tld least L).length:=by
 obtain ⟨k,_,h2⟩:=tld_split least L
 omega
theorem tld_getD (least:Nat) (L:List Int) (i:Nat):(tld least L).getD i 0=L.getD i 0:=by
 obtain ⟨k,e,_⟩:=tld_split least L
 obtain ⟨M,hM⟩:∃ M,tld least L=M:=⟨_,rfl⟩
 rw [hM] at e ⊢
 rw [e]
 by_cases h:i<M.length
 · rw [List.getD_eq_getElem?_getD,List.getD_eq_getElem?_getD,List.getElem?_append_left h]
 · rw [List.getD_eq_getElem?_getD,List.getD_eq_getElem?_getD,List.getElem?_append_right (by omega),List.getElem?_eq_none (by omega),List.getElem?_replicate]
   split<;>rfl
end Go.Vit
end
