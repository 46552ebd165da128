/- The library. -/
import Derived.Test.YtloeboiajgfigaaGreatVm2
set_option linter.unusedVariables false
set_option linter.unusedSimpArgs false
section
namespace Go.Vit
class Key (α:Type) [DecidableEq α] where
 enc:α->AV
 eq:∀ a b,zlA (enc a) (enc b)=some (decide (a=b))
instance:Key ByteArray:=⟨.str,λa b=>by
 show some (a.data.toList == b.data.toList)=_
 congr 1
 rcases a with ⟨a⟩
 rcases b with ⟨b⟩
 by_cases h:a=b
 · subst h;simp
 · have h1:ByteArray.mk a≠ByteArray.mk b:=λe=>h (by injection e)
   have h2:a.toList≠b.toList:=λe=>h (Array.toList_inj.1 e)
   rw [decide_eq_false h1]
   exact beq_false_of_ne h2⟩
instance:Key Int:=⟨.int .i64,λa b=>by
 show (if IntKind.i64=IntKind.i64 then some (a == b) else none)=_
 rw [if_pos rfl]
 by_cases h:a=b
 · subst h;simp
 · simp [h]⟩
section
variable {α:Type} [DecidableEq α]
def look:List (α×AV×Nat)->α->Option AV
 | [],_=>none
 | e::l,a=>if e.1=a then some e.2.1 else look l a
def idx:List (α×AV×Nat)->α->Option Nat
 | [],_=>none
 | e::l,a=>if e.1=a then some 0 else (idx l a).map (·+1)
theorem zfx {a:α}:∀ {l:List (α×AV×Nat)},idx l a=none->look l a=none
 | [],_=>rfl
 | e::l,h=>by
   by_cases he:e.1=a
   · rw [idx,if_pos he] at h;exact nomatch h
   · rw [idx,if_neg he,Option.map_eq_none_iff] at h
     rw [look,if_neg he,zfx h]
theorem zk0 {a:α}:∀ {l:List (α×AV×Nat)} {i:Nat},idx l a=some i->∃ e,l[i]? = some e/\e.1=a/\look l a=some e.2.1
 | [],_,h=>nomatch h
 | e::l,i,h=>by
   by_cases he:e.1=a
   · rw [idx,if_pos he] at h
     obtain rfl:=Option.some.inj h
     exact ⟨e,rfl,he,by rw [look,if_pos he]⟩
   · rw [idx,if_neg he,Option.map_eq_some_iff] at h
     obtain ⟨j,hj,rfl⟩:=h
     obtain ⟨e',h1,h2,h3⟩:=zk0 hj
     exact ⟨e',by simpa using h1,h2,by rw [look,if_neg he,h3]⟩
theorem ziZ (l:List (α×AV×Nat)) (a:α) (v:AV) (n:Nat) (h:look l a=none) (b:α):look (l++[(a,v,n)]) b=if b=a then some v else look l b:=by
 induction l with
 | nil=>
   show (if a=b then some v else none)=_
   by_cases hb:b=a
   · rw [if_pos hb,if_pos hb.symm]
   · rw [if_neg hb,if_neg λe=>hb e.symm];rfl
 | cons e l ih=>
   rw [look] at h
   by_cases he:e.1=a
   · rw [if_pos he] at h;exact nomatch h
   · rw [if_neg he] at h
     rw [List.cons_append,look,ih h,look]
     by_cases hb:e.1=b
     · rw [if_pos hb,if_pos hb,if_neg λe'=>he (hb.trans e')]
     · rw [if_neg hb,if_neg hb]
theorem zdi (v:AV) {a:α}:∀ {l:List (α×AV×Nat)} {i:Nat},idx l a=some i->∀ b,look (l.modify i λe=>(a,v,e.2.2)) b=if b=a then some v else look l b
 | [],_,h=>nomatch h
 | e::l,i,h=>λb=>by
   by_cases he:e.1=a
   · rw [idx,if_pos he] at h
     obtain rfl:=Option.some.inj h
     rw [List.modify_zero_cons,look,look]
     by_cases hb:b=a
     · rw [if_pos hb.symm,if_pos hb]
     · rw [if_neg λe=>hb e.symm,if_neg hb,if_neg λe'=>hb (e'.symm.trans he)]
   · rw [idx,if_neg he,Option.map_eq_some_iff] at h
     obtain ⟨j,hj,rfl⟩:=h
     rw [List.modify_succ_cons,look,zdi v hj b,look]
     by_cases hb:e.1=b
     · rw [if_pos hb,if_pos hb,if_neg λe'=>he (hb.trans e')]
     · rw [if_neg hb,if_neg hb]
end
section
variable {α:Type} [DecidableEq α] [Key α]
def zis (l:List (α×AV×Nat)):List (AV×AV×Nat):=l.map λe=>(Key.enc e.1,e.2)
theorem zdm (a:α):∀ l:List (α×AV×Nat),z9m (Key.enc a) (zis l)=some (idx l a)
 | []=>rfl
 | e::l=>by
   show (zlA (Key.enc a) (Key.enc e.1)).bind _=_
   rw [Key.eq,Option.bind_some]
   by_cases h:e.1=a
   · rw [if_pos (decide_eq_true h.symm),idx,if_pos h]
   · rw [if_neg (by simpa using λe=>h e.symm),idx,if_neg h]
     show Option.map _ (z9m (Key.enc a) (zis l))=_
     rw [zdm a l];rfl
theorem zdn (a:α) (v:AV):∀ (l:List (α×AV×Nat)) (i:Nat),(zis l).modify i (λe=>(Key.enc a,v,e.2.2))=zis (l.modify i λe=>(a,v,e.2.2))
 | [],i=>by simp [zis]
 | e::l,0=>rfl
 | e::l,i+1=>by
   show (Key.enc e.1,e.2)::(zis l).modify i _=_
   rw [zdn a v l i];rfl
theorem znn {l:List (α×AV×Nat)} {i:Nat} {e:α×AV×Nat} (h:l[i]? = some e):(zis l)[i]? = some (Key.enc e.1,e.2):=by
 unfold zis;rw [List.getElem?_map,h];rfl
theorem zhI {σ:Mem} {m c:Nat} {l:List (α×AV×Nat)} {a:α} {z:AV} {K:AV->Prop} (h:σ.get m=some (.map (zis l) c)) (hk:K ((look l a).getD z)):znX σ z false (.map m) (Key.enc a) K:=by
 refine opt h ?_
 refine opt (zdm a l) ?_
 cases hi:idx l a with
 | none=>rw [zfx hi] at hk;exact hk
 | some i=>
   obtain ⟨e,h1,h2,h3⟩:=zk0 hi
   rw [h3] at hk
   exact opt (znn h1) hk
theorem zoh {σ:Mem} {m c:Nat} {l:List (α×AV×Nat)} {a:α} {v:AV} {K:Mem->Prop} (h:σ.get m=some (.map (zis l) c))
 (hk:∀ l' c',(∀ b,look l' b=if b=a then some v else look l b)->K (σ.put m (some (.map (zis l') c')))):zqE σ (.map m) (Key.enc a) v K:=by
 refine opt h ?_
 refine opt (zdm a l) ?_
 cases hi:idx l a with
 | none=>
   have:=hk (l++[(a,v,c)]) (c+1) (ziZ l a v c (zfx hi))
   rw [show zis (l++[(a,v,c)])=zis l++[(Key.enc a,v,c)] from by simp [zis]] at this
   exact this
 | some i=>
   have:=hk (l.modify i λe=>(a,v,e.2.2)) c (zdi v hi)
   rw [<- zdn] at this
   exact this
end
end Go.Vit
end
section
namespace Go.Vit
theorem z1Q.sl {k n:Nat} {σ:Mem} {v:AV} {cs:List AV} (h:z1Q k σ v cs n) (hn:0<n):∃ b,v=.slice b 0 n (.op k)/\σ.get b=some (.rw cs)/\cs.length=n*k:=by
 rcases h with ⟨_,h,_⟩ | h
 · omega
 · exact h
abbrev Tok:=Int×Int×Int
def zlh (t:Tok):List AV:=[.int .i64 t.1,.int .i64 t.2.1,.int .i64 t.2.2]
theorem zk7 (t:Tok):(zlh t).length=3:=rfl
theorem zja (l:List Tok):(l.flatMap zlh).all AV.one=true:=by
 rw [List.all_eq_true]
 intro x hx
 obtain ⟨t,_,hx⟩:=List.mem_flatMap.1 hx
 simp [zlh] at hx
 rcases hx with rfl | rfl | rfl<;>rfl
def agr (s:ByteArray) (i d n:Nat):Prop:=i+n<s.size/\ze s (i+n)=ze s (i+n-d)
instance (s:ByteArray) (i d n:Nat):Decidable (agr s i d n):=inferInstanceAs (Decidable (_/\_))
def mlF (s:ByteArray) (i d:Nat):Nat->Nat->Nat
 | 0,n=>n
 | f+1,n=>if agr s i d n then mlF s i d f (n+1) else n
def ml (s:ByteArray) (i d:Nat):Nat:=mlF s i d 258 0
theorem zoJ {s:ByteArray} {i d:Nat}:∀ {f n:Nat},n<=mlF s i d f n/\mlF s i d f n<=n+f
 | 0,n=>by simp [mlF]
 | f+1,n=>by
   rw [mlF]
   split
   · have:=zoJ (s:=s) (i:=i) (d:=d) (f:=f) (n:=n+1);omega
   · omega
theorem zmc {s:ByteArray} {i d:Nat}:∀ {f n t:Nat},n<=t->t<mlF s i d f n->agr s i d t
 | 0,n,t,h1,h2=>by rw [mlF] at h2;omega
 | f+1,n,t,h1,h2=>by
   rw [mlF] at h2
   split at h2
   · rename_i h
     rcases Nat.eq_or_lt_of_le h1 with rfl | h1
     · exact h
     · exact zmc h1 h2
   · omega
theorem zmL {s:ByteArray} {i d:Nat}:∀ {f n:Nat},mlF s i d f n=n+f\/¬ agr s i d (mlF s i d f n)
 | 0,n=>.inl rfl
 | f+1,n=>by
   rw [mlF]
   split
   · rcases zmL (s:=s) (i:=i) (d:=d) (f:=f) (n:=n+1) with h | h
     · exact .inl (by omega)
     · exact .inr h
   · rename_i h;exact .inr h
theorem zd9 {s:ByteArray} {i d n:Nat} (hn:n<258) (h:agr s i d n):mlF s i d (258-n) n=mlF s i d (258-(n+1)) (n+1):=by
 rw [show 258-n=(258-(n+1))+1 from by omega,mlF,if_pos h]
theorem zo3 {s:ByteArray} {i d n:Nat} (h:n<258->¬ agr s i d n) (hn:n<=258):mlF s i d (258-n) n=n:=by
 rcases Nat.eq_or_lt_of_le hn with rfl | hn
 · rfl
 · rw [show 258-n=(258-(n+1))+1 from by omega,mlF,if_neg (h hn)]
theorem zoV (s:ByteArray) (i d:Nat):ml s i d<=258:=by have:=zoJ (s:=s) (i:=i) (d:=d) (f:=258) (n:=0);unfold ml;omega
theorem zhm {s:ByteArray} {i d t:Nat} (h:t<ml s i d):agr s i d t:=zmc (Nat.zero_le t) h
theorem zq3 {s:ByteArray} {i d n:Nat} (hn:n<=258) (h:∀ t<n,agr s i d t):n<=ml s i d:=by
 rcases zmL (s:=s) (i:=i) (d:=d) (f:=258) (n:=0) with h1 | h1
 · unfold ml;omega
 · unfold ml
   rcases Nat.lt_or_ge (mlF s i d 258 0) n with h2 | h2
   · exact absurd (h _ h2) h1
   · exact h2
theorem zoZ {s:ByteArray} {i d:Nat} (hi:i<=s.size):i+ml s i d<=s.size:=by
 rcases Nat.eq_zero_or_pos (ml s i d) with h | h
 · omega
 · have:=(zhm (show ml s i d-1<ml s i d by omega)).1;omega
theorem zo4 {s:ByteArray} {i d:Nat} (h:3<=ml s i d):mlF s i d 255 3=ml s i d:=by
 unfold ml
 rw [zd9 (n:=0) (by decide) (zhm (by omega)),zd9 (n:=0+1) (by decide) (zhm (by omega)),zd9 (n:=0+1+1) (by decide) (zhm (by omega))]
def tri (s:ByteArray) (i:Nat):ByteArray:=s.extract i (i+3)
theorem zqc {s:ByteArray} {i j:Nat} (hi:i+3<=s.size) (hj:j+3<=s.size):tri s i=tri s j↔∀ t<3,ze s (i+t)=ze s (j+t):=by
 unfold tri
 constructor
 · intro h t ht
   have:=congrArg (λx=>ze x t) h
   rwa [zS _ _ _ _ (by omega),zS _ _ _ _ (by omega)] at this
 · intro h
   refine z8S (by rw [size_extract,size_extract];omega) λt ht=>?_
   rw [size_extract] at ht
   rw [zS _ _ _ _ (by omega),zS _ _ _ _ (by omega),h t (by omega)]
theorem ml3 {s:ByteArray} {i d:Nat} (hd:d<=i) (hi:i+3<=s.size):3<=ml s i d↔tri s (i-d)=tri s i:=by
 rw [zqc (by omega) hi]
 constructor
 · intro h t ht
   have:=(zhm (s:=s) (i:=i) (d:=d) (t:=t) (by omega)).2
   rw [show i-d+t=i+t-d from by omega,this]
 · intro h
   refine zq3 (by decide) λt ht=>⟨by omega,?_⟩
   rw [show i+t-d=i-d+t from by omega,h t ht]
def rb (s:ByteArray) (i:Nat):Nat->Nat×Nat
 | 0=>(0,0)
 | d+1=>if (rb s i d).1<ml s i (d+1) then (ml s i (d+1),d+1) else rb s i d
theorem znY (s:ByteArray) (i:Nat):∀ d,(rb s i d).1<=258/\(rb s i d).2<=d/\(1<=(rb s i d).1->1<=(rb s i d).2/\ml s i (rb s i d).2=(rb s i d).1)
 | 0=>by simp [rb]
 | d+1=>by
   have:=znY s i d
   have:=zoV s i (d+1)
   rw [rb]
   split
   · dsimp only;omega
   · omega
def cut3 (p:Nat×Nat):Nat×Nat:=if 3<=p.1 then p else (0,0)
theorem zgc {s:ByteArray} {i d:Nat}:∀ {e:Nat},d<=e->(∀ x,d<x->x<=e->ml s i x<3)->cut3 (rb s i e)=cut3 (rb s i d)
 | 0,h,_=>by obtain rfl:d=0:=by omega
             rfl
 | e+1,h,hx=>by
   rcases Nat.eq_or_lt_of_le h with rfl | h
   · rfl
   · have ih:=zgc (s:=s) (i:=i) (Nat.le_of_lt_succ h) λx h1 h2=>hx x h1 (by omega)
     have:=hx (e+1) h (Nat.le_refl _)
     rw [<- ih,rb]
     split
     · unfold cut3;dsimp only;rw [if_neg (by omega),if_neg (by omega)]
     · rfl
theorem zlP {s:ByteArray} {i d:Nat} (h:3<=ml s i (d+1)):cut3 (rb s i (d+1))=if (cut3 (rb s i d)).1<ml s i (d+1) then (ml s i (d+1),d+1) else cut3 (rb s i d):=by
 rw [rb]
 by_cases h1:3<=(rb s i d).1
 · have e:cut3 (rb s i d)=rb s i d:=if_pos h1
   rw [e]
   by_cases h2:(rb s i d).1<ml s i (d+1)
   · rw [if_pos h2];exact if_pos h
   · rw [if_neg h2,e]
 · have e:cut3 (rb s i d)=(0,0):=if_neg h1
   rw [e,if_pos (by omega),if_pos (by show 0<_;omega)];exact if_pos h
theorem znb {s:ByteArray} {i d:Nat} (h:(rb s i d).1=258):∀ {e:Nat},d<=e->rb s i e=rb s i d
 | 0,hd=>by obtain rfl:d=0:=by omega
            rfl
 | e+1,hd=>by
   rcases Nat.eq_or_lt_of_le hd with rfl | hd
   · rfl
   · have ih:=znb h (Nat.le_of_lt_succ hd)
     have:=zoV s i (e+1)
     rw [rb,ih,if_neg (by omega)]
def best (s:ByteArray) (i:Nat):Nat×Nat:=rb s i (min 512 i)
def tk (s:ByteArray) (i:Nat):Tok×Nat:=
 if 3<=(best s i).1 then ((0,(best s i).1,(best s i).2),i+(best s i).1) else (((ze s i:Nat),0,0),i+1)
def pos (s:ByteArray):Nat->Nat
 | 0=>0
 | k+1=>(tk s (pos s k)).2
def zoN (s:ByteArray) (k:Nat):Tok:=(tk s (pos s k)).1
def toks (s:ByteArray) (k:Nat):List Tok:=(List.range k).map (zoN s)
theorem zmt (s:ByteArray) (k:Nat):toks s (k+1)=toks s k++[zoN s k]:=by simp [toks,List.range_succ]
theorem zjY (s:ByteArray) (k:Nat):(toks s k).length=k:=by simp [toks]
def Done (s:ByteArray) (k:Nat):Prop:=pos s k=s.size/\∀ j<k,pos s j<s.size
theorem zee {s:ByteArray} {i:Nat} (hi:i<=s.size):i+(best s i).1<=s.size:=by
 unfold best
 have h:=znY s i (min 512 i)
 generalize min 512 i=d at *
 rcases Nat.eq_zero_or_pos (rb s i d).1 with h0 | h0
 · omega
 · have:=zoZ (s:=s) (i:=i) (d:=(rb s i d).2) hi
   rw [(h.2.2 h0).2] at this
   exact this
theorem zoK {s:ByteArray} {i:Nat} (hi:i<s.size):i<(tk s i).2/\(tk s i).2<=s.size:=by
 unfold tk
 have:=zee (Nat.le_of_lt hi)
 split<;>dsimp only<;>omega
theorem zpY {s:ByteArray}:∀ {k:Nat},(∀ j<k,pos s j<s.size)->pos s k<=s.size
 | 0,_=>Nat.zero_le _
 | k+1,h=>(zoK (h k (by omega))).2
theorem zmZ {s:ByteArray}:∀ {k:Nat},(∀ j<k,pos s j<s.size)->k<=pos s k
 | 0,_=>Nat.zero_le _
 | k+1,h=>by
   have h1:=zmZ (s:=s) (k:=k) λj hj=>h j (by omega)
   have h2:=(zoK (h k (by omega))).1
   show k+1<=(tk s (pos s k)).2
   omega
theorem zdd {s:ByteArray} {k k':Nat} (h:Done s k) (h':Done s k'):k=k':=by
 rcases Nat.lt_trichotomy k k' with h1 | h1 | h1
 · have:=h'.2 k h1;have:=h.1;omega
 · exact h1
 · have:=h.2 k' h1;have:=h'.1;omega
theorem zk8 {s:ByteArray} {k:Nat} (h:Done s k):k<=s.size:=by have:=zmZ h.2;have:=h.1;omega
end Go.Vit
end
section
namespace Go.Vit
def right (t:Tok):Prop:=if t.2.1=0 then t.2.2=0/\0<=t.1/\t.1<=255 else t.1=0/\3<=t.2.1/\t.2.1<=258/\1<=t.2.2/\t.2.2<=32768
instance (t:Tok):Decidable (right t):=by unfold right;infer_instance
def z4X (out:List UInt8) (d:Nat):Nat->List UInt8
 | 0=>out
 | n+1=>z4X out d n++[(z4X out d n)[(z4X out d n).length-d]?.getD 0]
theorem zbp (out:List UInt8) (d:Nat):∀ n,(z4X out d n).length=out.length+n
 | 0=>rfl
 | n+1=>by rw [z4X,List.length_append,zbp out d n];rfl
/-! ### What the tokens of bytes say -/
theorem znI {s:ByteArray} {i:Nat} (hi:i<s.size):right (tk s i).1/\(tk s i).1.2.2<=512/\(max (tk s i).1.2.1 1).toNat=(tk s i).2-i:=by
 have hb:=znY s i (min 512 i)
 have hs:=zF s i
 rw [show rb s i (min 512 i)=best s i from rfl] at hb
 unfold tk
 split
 · rename_i h
   have:=hb.2.2 (by omega)
   unfold right
   dsimp only
   refine ⟨?_,by omega,by omega⟩
   rw [if_neg (by omega)]
   omega
 · unfold right
   dsimp only
   refine ⟨?_,by omega,by omega⟩
   rw [if_pos rfl]
   omega
end Go.Vit
end
section
namespace Go.Vit
def ic (l:List Int):List AV:=l.map λn=>.int .i64 n
theorem z0j (l:List Int):(ic l).length=l.length:=by simp [ic]
theorem zdW {l:List Int} {i:Nat} (h:i<l.length):(ic l)[i]? = some (.int .i64 l[i]):=by simp [ic,List.getElem?_eq_getElem h]
theorem z3s (l:List Int):(ic l).all AV.one=true:=by
 rw [List.all_eq_true]
 intro x hx
 simp only [ic,List.mem_map] at hx
 obtain ⟨b,_,rfl⟩:=hx
 rfl
theorem zaB (l:List Int) (i:Nat) (n:Int):(ic l).set i (.int .i64 n)=ic (l.set i n):=by unfold ic;rw [List.map_set]
theorem z3k (l m:List Int):ic (l++m)=ic l++ic m:=by simp [ic]
def arr (f:Nat->Int) (n:Nat):List Int:=(List.range n).map f
theorem zW (f:Nat->Int) (n:Nat):(arr f n).length=n:=by simp [arr]
theorem zgh {f:Nat->Int} {n i:Nat} (h:i<n):(ic (arr f n))[i]? = some (.int .i64 (f i)):=by
 rw [zdW (by rw [zW];exact h)];simp [arr]
theorem za0 {f:Nat->Int} {n i:Nat} (v:Int):(arr f n).set i v=arr (λj=>if j=i then v else f j) n:=by
 refine List.ext_getElem (by simp [arr]) λk h1 h2=>?_
 rw [List.getElem_set]
 simp only [arr,List.getElem_map,List.getElem_range]
 by_cases h:i=k
 · rw [if_pos h,if_pos h.symm]
 · rw [if_neg h,if_neg λe=>h e.symm]
theorem z0e {f g:Nat->Int} {n:Nat} (h:∀ j<n,f j=g j):arr f n=arr g n:=
 List.map_congr_left λj hj=>h j (List.mem_range.1 hj)
theorem zfZ (n:Nat):List.replicate n (AV.int .i64 0)=ic (arr (λ_=>0) n):=by
 refine List.ext_getElem (by simp [ic,arr]) λi h1 h2=>?_
 simp [ic,arr]
theorem z8M (n:Nat):repl n [.int .i64 0]=ic (arr (λ_=>0) n):=by
 rw [<- zfZ];rfl
/-! ### How many codes there are of each length -/
def cN (L:List Int) (n:Nat):Nat:=L.countP λ(x:Int)=>decide (0<x/\x=(n:Int))
theorem zdL (L M:List Int) (n:Nat):cN (L++M) n=cN L n+cN M n:=by unfold cN;rw [List.countP_append]
theorem zdt (x:Int) (L:List Int) (n:Nat):cN (x::L) n=cN L n+if 0<x/\x=n then 1 else 0:=by
 unfold cN;rw [List.countP_cons];simp
theorem zci (L:List Int):cN L 0=0:=by
 induction L with
 | nil=>rfl
 | cons x L ih=>rw [zdt,ih,if_neg (by omega)]
theorem zhA (L:List Int) (n:Nat):cN L n<=L.length:=List.countP_le_length
theorem z1P {L:List Int} {i:Nat} (h:i<L.length) (n:Nat):cN (L.take (i+1)) n=cN (L.take i) n+if 0<L[i]/\L[i]=n then 1 else 0:=by
 rw [List.take_succ_eq_append_getElem h,zdL,zdt];simp [cN]
theorem z9l (L:List Int) (i n:Nat):cN (L.take i) n<=cN L n:=(List.take_sublist i L).countP_le
def many (L:List Int):Nat:=L.countP λx=>decide (0<x)
def room (L:List Int):Nat:=(L.map λx=>if 0<x then 2^(15-x).toNat else 0).sum
def lens (L:List Int):Prop:=L.length<=288/\∀ x∈L,0<=x/\x<=15
instance (L:List Int):Decidable (lens L):=by unfold lens;infer_instance
def msum (c:Nat->Nat):Nat->Nat
 | 0=>0
 | k+1=>msum c k+c k
def wsum (c:Nat->Nat):Nat->Nat
 | 0=>0
 | k+1=>wsum c k+c k*2^(15-k)
theorem zjH {c c':Nat->Nat} {x:Nat} (h:∀ n,c' n=c n+if x=n then 1 else 0):∀ k,msum c' k=msum c k+if x<k then 1 else 0
 | 0=>by simp [msum]
 | k+1=>by
   rw [msum,msum,zjH h k,h k]
   split<;>split<;>split<;>omega
theorem zjd {c c':Nat->Nat} {x:Nat} (h:∀ n,c' n=c n+if x=n then 1 else 0):∀ k,wsum c' k=wsum c k+if x<k then 2^(15-x) else 0
 | 0=>by simp [wsum]
 | k+1=>by
   rw [wsum,wsum,zjd h k,h k,Nat.add_mul]
   by_cases h1:x=k
   · subst h1
     rw [if_neg (by omega),if_pos rfl,if_pos (by omega),Nat.one_mul];omega
   · rw [if_neg h1,Nat.zero_mul]
     by_cases h2:x<k
     · rw [if_pos h2,if_pos (by omega)];omega
     · rw [if_neg h2,if_neg (by omega)];omega
theorem zgS {c c':Nat->Nat} (h:∀ n,c' n=c n):∀ k,msum c' k=msum c k
 | 0=>rfl
 | k+1=>by rw [msum,msum,zgS h k,h k]
theorem zhr {c c':Nat->Nat} (h:∀ n,c' n=c n):∀ k,wsum c' k=wsum c k
 | 0=>rfl
 | k+1=>by rw [wsum,wsum,zhr h k,h k]
theorem sums {L:List Int} (h:∀ x∈L,0<=x/\x<=15):msum (cN L) 16=many L/\wsum (cN L) 16=room L:=by
 induction L with
 | nil=>exact ⟨rfl,rfl⟩
 | cons x L ih=>
   obtain ⟨h1,h2⟩:=ih λy hy=>h y (List.mem_cons_of_mem _ hy)
   have hx:=h x (by simp)
   unfold many room at *
   rw [List.countP_cons,List.map_cons,List.sum_cons]
   by_cases h0:0<x
   · obtain ⟨m,rfl⟩:=z20 hx.1
     have hu:∀ n,cN ((m:Int)::L) n=cN L n+if m=n then 1 else 0:=λn=>by
      rw [zdt]
      congr 1
      by_cases e:m=n
      · subst e;rw [if_pos ⟨h0,rfl⟩,if_pos rfl]
      · rw [if_neg λe'=>e (by omega),if_neg e]
     rw [zjH hu,zjd hu,h1,h2,if_pos (show m<16 by omega),if_pos (show m<16 by omega),if_pos h0,show ((15:Int)-m).toNat=15-m from by omega]
     exact ⟨by rw [if_pos (decide_eq_true h0)],Nat.add_comm _ _⟩
   · have hu:∀ n,cN (x::L) n=cN L n:=λn=>by rw [zdt,if_neg (by omega),Nat.add_zero]
     rw [zgS hu,zhr hu,h1,h2,if_neg h0]
     exact ⟨by simp [h0],by omega⟩
theorem zgx {c:Nat->Nat} {k:Nat}:∀ {m:Nat},k<=m->wsum c k<=wsum c m
 | 0,h=>by obtain rfl:k=0:=by omega
           exact Nat.le_refl _
 | m+1,h=>by
   rcases Nat.eq_or_lt_of_le h with rfl | h
   · exact Nat.le_refl _
   · have:=zgx (c:=c) (k:=k) (m:=m) (by omega)
     rw [wsum];omega
theorem zaj {c:Nat->Nat} {k:Nat}:∀ {m:Nat},k<=m->msum c k<=msum c m
 | 0,h=>by obtain rfl:k=0:=by omega
           exact Nat.le_refl _
 | m+1,h=>by
   rcases Nat.eq_or_lt_of_le h with rfl | h
   · exact Nat.le_refl _
   · have:=zaj (c:=c) (k:=k) (m:=m) (by omega)
     rw [msum];omega
def chk (L:List Int):Int:=
 if ¬ lens L then 1 else if 32768<room L then 10 else if room L<32768/\0<many L/\¬ (many L=1/\cN L 1≠0) then 11 else 0
theorem zdS (L:List Int):many L<=L.length:=List.countP_le_length
theorem zmz (L:List Int):room L<=L.length*32768:=by
 unfold room
 induction L with
 | nil=>simp
 | cons x L ih=>
   rw [List.map_cons,List.sum_cons,List.length_cons,Nat.add_mul]
   have:(if 0<x then 2^(15-x).toNat else 0)<=32768:=by
    split
    · exact z1D (b:=15) (by omega)
    · omega
   omega
theorem zeI {L:List Int} {i:Nat} (h:i<L.length):room (L.take (i+1))=room (L.take i)+if 0<L[i] then 2^(15-L[i]).toNat else 0:=by
 unfold room;rw [List.take_succ_eq_append_getElem h,List.map_append,List.sum_append];simp
theorem z6Q {L:List Int} {i:Nat} (h:i<L.length):many (L.take (i+1))=many (L.take i)+if 0<L[i] then 1 else 0:=by
 unfold many;rw [List.take_succ_eq_append_getElem h,List.countP_append,List.countP_cons];simp
def most (L:List Int):Int:=L.foldl (λm x=>if 0<x then max m x else m) 0
theorem z9J {L:List Int} {i:Nat} (h:i<L.length):most (L.take (i+1))=if 0<L[i] then max (most (L.take i)) L[i] else most (L.take i):=by
 unfold most;rw [List.take_succ_eq_append_getElem h,List.foldl_append];rfl
theorem zgd {L:List Int}:∀ {i:Nat},i<=L.length->(many (L.take i)=0->most (L.take i)=0/\cN (L.take i) 1=0)/\(many (L.take i)=1->(most (L.take i)=1↔cN (L.take i) 1≠0))
 | 0,_=>by simp [many,most,cN]
 | i+1,h=>by
   obtain ⟨h1,h2⟩:=zgd (L:=L) (i:=i) (by omega)
   rw [z6Q (by omega),z9J (by omega),z1P (by omega)]
   generalize L[i]=x
   by_cases h0:0<x
   · rw [if_pos h0,if_pos h0]
     refine ⟨λe=>by omega,λe=>?_⟩
     obtain ⟨h3,h4⟩:=h1 (by omega)
     rw [h3,h4]
     by_cases hx:x=((1:Nat):Int)
     · rw [if_pos ⟨h0,hx⟩];constructor<;>intro _<;>omega
     · rw [if_neg λe=>hx e.2];constructor<;>intro _<;>omega
   · rw [if_neg h0,if_neg h0,if_neg λe=>h0 e.1]
     exact ⟨h1,h2⟩
end Go.Vit
end
section
namespace Go.Vit
def Own (k:Nat) (σ σ':Mem) (v:AV) (cs:List AV) (n:Nat):Prop:=z1Q k σ' v cs n/\∀ b∈z3 v,σ.next<=b/\b<σ'.next
theorem Own.same {k n:Nat} {σ σ1 σ2:Mem} {v:AV} {cs:List AV} (h:Own k σ σ1 v cs n) (s:σ1.Same σ2):Own k σ σ2 v cs n:=
 ⟨h.1.keep λb hb=>s.get b (h.2 b hb).2,λb hb=>⟨(h.2 b hb).1,Nat.lt_of_lt_of_le (h.2 b hb).2 s.next⟩⟩
theorem Own.only {k n:Nat} {σ σ1 σ2:Mem} {v:AV} {cs:List AV} {l:List Nat} (h:Own k σ σ1 v cs n) (s:Mem.Only l σ1 σ2) (hl:∀ b∈z3 v,b ∉ l):Own k σ σ2 v cs n:=
 ⟨h.1.keep λb hb=>s.get b (h.2 b hb).2 (hl b hb),λb hb=>⟨(h.2 b hb).1,Nat.lt_of_lt_of_le (h.2 b hb).2 s.next⟩⟩
theorem Own.nil (k:Nat) (σ σ':Mem):Own k σ σ' .nils [] 0:=⟨.nil k σ',λb hb=>by simp [z3] at hb⟩
theorem Own.push {k bytes id nb n m j:Nat} {σ σ1:Mem} {v:AV} {cs c:List AV} {K:AV->Mem->Prop} (h:Own k σ σ1 v cs n) (s:σ.Same σ1) {σ2:Mem} (hσ2:σ2=(σ1.bump j).put nb (some (.rw c))) (hnb:σ1.next<=nb) (hid:nb<id) (hm:m≠0) (hc:c.length=m*k)
 (h1:c.all AV.one=true) (h2:cs.all AV.one=true) (hr:(n+m)*bytes<=140737488355328/\n+m<=9223372036854775806) {c':Cap}
 (hk:∀ v' σ',Own k σ σ' v' (cs++c) (n+m)->σ.Same σ'->id<σ'.next->Mem.Only (z3 v) σ1 σ'->(∀ b∈z3 v',b∈z3 v\/b=id)->K v' σ')(hlt:id<σ2.next):apW k bytes id σ2 v (.slice nb 0 m c') K:=by
 subst hσ2
 refine z1Q.append (n:=n) (m:=m) (cs:=cs) (c:=c) (h.1.keep λb hb=>by rw [Mem.get_put_ne _ (by have:=(h.2 b hb).2;omega)];rfl) (λK hK=>z6R (Mem.get_put_self _ _ _) hc rfl K hK) (λh=>absurd h hm) hc h1 h2 hr (λhb=>by have:=(h.2 _ hb).2;omega) ?_
 intro v' σ3 own3 hn3 hg3 hb3
 rw [Mem.next_put,Mem.next_bump] at hn3 hlt
 have o:Mem.Only (z3 v) σ1 σ3:=⟨by omega,λb hb hn=>by rw [hg3 b hn (by omega),Mem.get_put_ne _ (by omega)];rfl⟩
 refine hk v' σ3 ⟨own3,λb hb=>?_⟩ ⟨Nat.le_trans s.next o.next,λb hb=>?_⟩ (by omega) o hb3
 · rcases hb3 b hb with h' | rfl
   · have:=h.2 b h';omega
   · have:=s.next;omega
 · rw [o.get b (Nat.lt_of_lt_of_le hb s.next) λh'=>by have:=h.2 b h';omega]
   exact s.get b hb
def RdS (k:Nat) (σ:Mem) (v:AV) (cs:List AV) (n:Nat):Prop:=
 (v=.nils/\n=0/\cs=[])\/∃ b c,v=.slice b 0 n c/\(∃ q,σ.get b=some q/\q.cellsR=some cs)/\cs.length=n*k
theorem z1Q.rd {k n:Nat} {σ:Mem} {v:AV} {cs:List AV} (h:z1Q k σ v cs n):RdS k σ v cs n:=by
 rcases h with h | ⟨b,h1,h2,h3⟩
 · exact .inl h
 · exact .inr ⟨b,_,h1,⟨_,h2,rfl⟩,h3⟩
theorem RdS.len {k n:Nat} {σ:Mem} {v:AV} {cs:List AV} (h:RdS k σ v cs n) {K:Int->Prop} (hk:K (n:Nat)):zx v K:=by
 rcases h with ⟨rfl,rfl,rfl⟩ | ⟨b,c,rfl,_⟩<;>exact hk
theorem RdS.pos {k n:Nat} {σ:Mem} {v:AV} {cs:List AV} (h:RdS k σ v cs n) (hn:0<n):∃ b c,v=.slice b 0 n c/\(∃ q,σ.get b=some q/\q.cellsR=some cs)/\cs.length=n*k:=by
 rcases h with ⟨_,h,_⟩ | h
 · omega
 · exact h
theorem RdS.keep {k n:Nat} {σ σ':Mem} {v:AV} {cs:List AV} (h:RdS k σ v cs n) (hb:∀ b∈z3 v,σ'.get b=σ.get b):RdS k σ' v cs n:=by
 rcases h with h | ⟨b,c,rfl,⟨q,h1,h2⟩,h3⟩
 · exact .inl h
 · exact .inr ⟨b,c,rfl,⟨q,(hb b (by simp [z3])).trans h1,h2⟩,h3⟩
theorem RdS.lt {k n:Nat} {σ:Mem} {v:AV} {cs:List AV} (h:RdS k σ v cs n) (live:σ.Live):∀ b∈z3 v,b<σ.next:=by
 rcases h with ⟨rfl,_⟩ | ⟨b,c,rfl,⟨q,h1,h2⟩,h3⟩
 · intro b hb;simp [z3] at hb
 · intro c hc;simp [z3] at hc;subst hc;exact live.lt h1
theorem zq0 {σ:Mem} {b o n:Nat} {cs:List AV} {K:AV->Prop} (h:∃ q,σ.get b=some q/\q.cellsR=some cs) (hn:o+n<=cs.length) (hk:K (.agg ((cs.drop o).take n))):z5x n σ (.ptr b o) K:=by
 obtain ⟨q,h1,h2⟩:=h
 exact ldnq h1 h2 hn hk
theorem Grow.same {o o':List Nat} {σ σ1 σ2:Mem} (h:Grow o o' σ1 σ2) (s:σ.Same σ1) (ho:∀ b∈o,σ.next<=b):σ.Same σ2/\∀ b∈o',σ.next<=b:=by
 refine ⟨⟨Nat.le_trans s.next h.only.next,λb hb=>?_⟩,λb hb=>?_⟩
 · refine (h.only.get b (Nat.lt_of_lt_of_le hb s.next) λhm=>?_).trans (s.get b hb)
   have:=ho b hm;omega
 · rcases h.new b hb with h1 | h1
   · exact ho b h1
   · exact Nat.le_trans s.next h1
theorem zhH:∀ (vc pre l:List AV),l.length=vc.length->setAt (pre++l) pre.length vc=pre++vc
 | [],pre,l,h=>by
   obtain rfl:=List.length_eq_zero_iff.1 h
   rfl
 | c::cs,pre,[],h=>by simp at h
 | c::cs,pre,x::l,h=>by
   show setAt ((pre++x::l).set pre.length c) (pre.length+1) cs=_
   have e:(pre++x::l).set pre.length c=(pre++[c])++l:=by
    rw [List.set_append_right _ _ (Nat.le_refl _),Nat.sub_self];simp
   have:=zhH cs (pre++[c]) l (by simpa using h)
   rw [List.length_append] at this
   rw [e]
   rw [show (pre++[c])++cs=pre++c::cs from by simp] at this
   exact this
theorem z6d {l vc:List AV} (h:l.length=vc.length):setAt l 0 vc=vc:=zhH vc [] l h
/-! ### Arguments -/
section
variable {P:Program} {σ:Mem}
end
end Go.Vit
end
section
namespace Go.Vit
def fc (L:List Int):Nat->Nat
 | 0=>0
 | n+1=>(fc L n+cN L n)*2
theorem zpP (L:List Int):∀ n,fc L n+2*L.length<=L.length*2^(n+1)
 | 0=>by rw [fc];omega
 | n+1=>by
   have h1:=zpP L n
   have h2:=zhA L n
   rw [fc,Nat.pow_succ,<- Nat.mul_assoc]
   omega
theorem zaP {L:List Int} (hL:L.length<=288) {n:Nat} (hn:n<=15):fc L n<=288*65536:=by
 have h1:=zpP L n
 have h2:2^(n+1)<=2^16:=z1D (by omega)
 have h3:L.length*2^(n+1)<=288*2^16:=Nat.mul_le_mul hL h2
 omega
def cd (L:List Int) (i:Nat):Nat:=if 0<L.getD i 0 then fc L (L.getD i 0).toNat+cN (L.take i) (L.getD i 0).toNat else 0
def codes (L:List Int):List Int:=arr (λi=>(cd L i:Nat)) L.length
theorem z4V (L:List Int):(codes L).length=L.length:=zW _ _
theorem zA {L:List Int} {i:Nat} (h:i<L.length):L.getD i 0=L[i]:=by simp [List.getD,List.getElem?_eq_getElem h]
theorem zpV {L:List Int} {i n:Nat} (h:i<L.length) (hn:L[i]=(n:Nat)) (h0:0<n):cd L i=fc L n+cN (L.take i) n:=by
 unfold cd
 rw [zA h,hn,if_pos (by omega),Int.toNat_natCast]
theorem zlV {L:List Int} {i:Nat} (h:i<L.length) (hn:¬ 0<L[i]):cd L i=0:=by
 unfold cd
 rw [zA h,if_neg hn]
end Go.Vit
end
section
namespace Go.Vit
section
variable {α:Type} (key:α->Int)
def Stb (l l':List α):Prop:=l'.length=l.length/\∀ v:Int,l'.filter (λx=>decide (key x=v))=l.filter (λx=>decide (key x=v))
def Srt (l:List α):Prop:=l.Pairwise λx y=>key x<=key y
variable {key}
theorem Stb.refl (l:List α):Stb key l l:=⟨rfl,λ_=>rfl⟩
theorem Stb.trans {a b c:List α} (h:Stb key a b) (g:Stb key b c):Stb key a c:=⟨g.1.trans h.1,λv=>(g.2 v).trans (h.2 v)⟩
theorem Stb.append {a a' b b':List α} (h:Stb key a a') (g:Stb key b b'):Stb key (a++b) (a'++b'):=
 ⟨by rw [List.length_append,List.length_append,h.1,g.1],λv=>by rw [List.filter_append,List.filter_append,h.2 v,g.2 v]⟩
theorem Stb.mem {a b:List α} (h:Stb key a b) (x:α):x∈b↔x∈a:=by
 have e:=h.2 (key x)
 have h1:x∈b.filter (λy=>decide (key y=key x))↔x∈b:=by rw [List.mem_filter];simp
 have h2:x∈a.filter (λy=>decide (key y=key x))↔x∈a:=by rw [List.mem_filter];simp
 rw [<- h1,<- h2,e]
theorem Stb.swap {u v:List α} (h:∀ x∈u,∀ y∈v,key y<key x):Stb key (u++v) (v++u):=by
 refine ⟨by rw [List.length_append,List.length_append,Nat.add_comm],λk=>?_⟩
 rw [List.filter_append,List.filter_append]
 by_cases hu:u.filter (λx=>decide (key x=k))=[]
 · rw [hu];simp
 · by_cases hv:v.filter (λx=>decide (key x=k))=[]
   · rw [hv];simp
   · obtain ⟨x,hx⟩:=List.exists_mem_of_ne_nil _ hu
     obtain ⟨y,hy⟩:=List.exists_mem_of_ne_nil _ hv
     rw [List.mem_filter] at hx hy
     have h1:=of_decide_eq_true hx.2
     have h2:=of_decide_eq_true hy.2
     have:=h x hx.1 y hy.1
     omega
theorem Srt.append {a b:List α} (ha:Srt key a) (hb:Srt key b) (h:∀ x∈a,∀ y∈b,key x<=key y):Srt key (a++b):=List.pairwise_append.2 ⟨ha,hb,h⟩
theorem Srt.left {a b:List α} (h:Srt key (a++b)):Srt key a:=(List.pairwise_append.1 h).1
theorem Srt.right {a b:List α} (h:Srt key (a++b)):Srt key b:=(List.pairwise_append.1 h).2.1
theorem Srt.rel {a b:List α} (h:Srt key (a++b)):∀ x∈a,∀ y∈b,key x<=key y:=(List.pairwise_append.1 h).2.2
theorem zcq {A1 A2 B1 B2 L R:List α} (hA:Srt key (A1++A2)) (hB:Srt key (B1++B2)) (h1:∀ x∈A1,∀ y∈B2,key x<=key y) (h2:∀ x∈A2,∀ y∈B1,key y<key x)
 (sL:Stb key (A1++B1) L) (oL:Srt key L) (sR:Stb key (A2++B2) R) (oR:Srt key R):Srt key (L++R)/\Stb key ((A1++A2)++(B1++B2)) (L++R):=by
 refine ⟨oL.append oR λx hx y hy=>?_,?_⟩
 · rw [sL.mem,List.mem_append] at hx
   rw [sR.mem,List.mem_append] at hy
   rcases hx with hx | hx<;>rcases hy with hy | hy
   · exact hA.rel x hx y hy
   · exact h1 x hx y hy
   · exact Int.le_of_lt (h2 y hy x hx)
   · exact hB.rel x hx y hy
 · have s:Stb key (A1++(A2++B1)++B2) (A1++(B1++A2)++B2):=((Stb.refl A1).append (Stb.swap h2)).append (Stb.refl B2)
   have t:=sL.append sR
   rw [show A1++A2++(B1++B2)=A1++(A2++B1)++B2 from by simp]
   rw [show A1++B1++(A2++B2)=A1++(B1++A2)++B2 from by simp] at t
   exact s.trans t
theorem Srt.lt_succ {l:List α} (h:Srt key l) (n:Int):l.filter (λx=>decide (key x<n+1))=l.filter (λx=>decide (key x<n))++l.filter (λx=>decide (key x=n)):=by
 induction l with
 | nil=>rfl
 | cons x l ih=>
   have hx:∀ y∈l,key x<=key y:=(List.pairwise_cons.1 h).1
   have ih:=ih (List.pairwise_cons.1 h).2
   rcases Int.lt_trichotomy (key x) n with hlt | heq | hgt
   · rw [List.filter_cons_of_pos (by simp;omega),List.filter_cons_of_pos (by simp;omega),List.filter_cons_of_neg (by simp;omega),ih];rfl
   · have e:(x::l).filter (λx=>decide (key x<n))=[]:=by
      rw [List.filter_eq_nil_iff]
      intro y hy
      rcases List.mem_cons.1 hy with rfl | hy
      · simp;omega
      · have:=hx y hy;simp;omega
     have e':l.filter (λx=>decide (key x<n))=[]:=by
      rw [List.filter_eq_nil_iff]
      intro y hy
      have:=hx y hy;simp;omega
     rw [e,List.filter_cons_of_pos (by simp;omega),List.filter_cons_of_pos (by simp;omega),ih,e'];rfl
   · have e1:∀ p:α->Bool,(∀ y,p y=true->key y<=n)->(x::l).filter p=[]:=by
      intro p hp
      rw [List.filter_eq_nil_iff]
      intro y hy h'
      have h2:=hp y h'
      rcases List.mem_cons.1 hy with rfl | hy
      · omega
      · have:=hx y hy;omega
     rw [e1 _ λy h=>by have:=of_decide_eq_true h;omega,e1 _ λy h=>by have:=of_decide_eq_true h;omega,e1 _ λy h=>by have:=of_decide_eq_true h;omega];rfl
theorem Srt.at {l:List α} (h:Srt key l) {n:Int} {k:Nat} {x:α} (hk:(l.filter (λx=>decide (key x=n)))[k]? = some x):l[(l.filter (λx=>decide (key x<n))).length+k]? = some x:=by
 have e:l=l.filter (λx=>decide (key x<n+1))++l.filter (λx=>!decide (key x<n+1)):=by
  clear hk
  induction l with
  | nil=>rfl
  | cons y l ih=>
    have hx:∀ z∈l,key y<=key z:=(List.pairwise_cons.1 h).1
    have ih:=ih (List.pairwise_cons.1 h).2
    by_cases hy:key y<n+1
    · rw [List.filter_cons_of_pos (by simp;omega),List.filter_cons_of_neg (by simp;omega),List.cons_append,<- ih]
    · have e':l.filter (λx=>decide (key x<n+1))=[]:=by
       rw [List.filter_eq_nil_iff]
       intro z hz
       have:=hx z hz;simp;omega
      rw [e',List.nil_append] at ih
      rw [List.filter_cons_of_neg (by simp;omega),List.filter_cons_of_pos (by simp;omega),e',List.nil_append,<- ih]
 rw [h.lt_succ] at e
 have hlt:=(List.getElem?_eq_some_iff.1 hk).1
 generalize l.filter (λx=>decide (key x<n))=a at e ⊢
 generalize l.filter (λx=>decide (key x=n))=b at e hk hlt
 generalize l.filter (λx=>!decide (key x<n+1))=c at e
 rw [e]
 rw [List.append_assoc,List.getElem?_append_right (Nat.le_add_right _ _),Nat.add_sub_cancel_left,List.getElem?_append_left hlt]
 exact hk
/-! ### Exchanging -/
theorem z1K {L R:List α} {x:α} {n:Nat} (h:n=L.length):(L++x::R)[n]? = some x:=by subst h;simp
theorem swap2 {A B C:List α} {x y:α} {i j:Nat} (hi:i=A.length) (hj:j=i+1+B.length):((A++x::(B++y::C)).set i y).set j x=A++y::(B++x::C):=by
 subst hi
 rw [List.set_append_right _ _ (Nat.le_refl _),Nat.sub_self,List.set_cons_zero,List.set_append_right _ _ (by omega),show j-A.length=B.length+1 from by omega,List.set_cons_succ,List.set_append_right _ _ (Nat.le_refl _),Nat.sub_self,List.set_cons_zero]
theorem swap2' {A B C:List α} {x y:α} {i j:Nat} (hi:i=A.length) (hj:j=i+1+B.length):((A++x::(B++y::C)).set j x).set i y=A++y::(B++x::C):=by
 rw [List.set_comm _ _ (by omega),swap2 hi hj]
theorem z2n (l:List α) {k:Nat} (h:k<=l.length):∃ a b,l=a++b/\a.length=k:=⟨l.take k,l.drop k,(List.take_append_drop k l).symm,by rw [List.length_take];omega⟩
theorem z2d (l:List α) (h:l≠[]):∃ x r,l=x::r:=by cases l with
 | nil=>exact absurd rfl h
 | cons x r=>exact ⟨x,r,rfl⟩
theorem z9d (l:List α) (h:l≠[]):∃ r x,l=r++[x]:=⟨l.dropLast,l.getLast h,(List.dropLast_concat_getLast h).symm⟩
end
end Go.Vit
end
section
namespace Go.Vit
theorem Own.pushO {k bytes id nb n m j:Nat} {os:List Nat} {σ σ1:Mem} {v:AV} {cs c:List AV} {K:AV->Mem->Prop} (h:Own k σ σ1 v cs n) (s:Mem.Only os σ σ1) {σ2:Mem} (hσ2:σ2=(σ1.bump j).put nb (some (.rw c))) (hnb:σ1.next<=nb) (hid:nb<id) (hm:m≠0) (hc:c.length=m*k)
 (h1:c.all AV.one=true) (h2:cs.all AV.one=true) (hr:(n+m)*bytes<=140737488355328/\n+m<=9223372036854775806) {c':Cap}
 (hk:∀ v' σ',Own k σ σ' v' (cs++c) (n+m)->Mem.Only os σ σ'->id<σ'.next->Mem.Only (z3 v) σ1 σ'->(∀ b∈z3 v',b∈z3 v\/b=id)->K v' σ')(hlt:id<σ2.next):apW k bytes id σ2 v (.slice nb 0 m c') K:=by
 subst hσ2
 refine z1Q.append (n:=n) (m:=m) (cs:=cs) (c:=c) (h.1.keep λb hb=>by rw [Mem.get_put_ne _ (by have:=(h.2 b hb).2;omega)];rfl) (λK hK=>z6R (Mem.get_put_self _ _ _) hc rfl K hK) (λh=>absurd h hm) hc h1 h2 hr (λhb=>by have:=(h.2 _ hb).2;omega) ?_
 intro v' σ3 own3 hn3 hg3 hb3
 rw [Mem.next_put,Mem.next_bump] at hn3 hlt
 have o:Mem.Only (z3 v) σ1 σ3:=⟨by omega,λb hb hn=>by rw [hg3 b hn (by omega),Mem.get_put_ne _ (by omega)];rfl⟩
 refine hk v' σ3 ⟨own3,λb hb=>?_⟩ ⟨Nat.le_trans s.next o.next,λb hb hn=>?_⟩ (by omega) o hb3
 · rcases hb3 b hb with h' | rfl
   · have:=h.2 b h';omega
   · have:=s.next;omega
 · rw [o.get b (Nat.lt_of_lt_of_le hb s.next) λh'=>by have:=h.2 b h';omega]
   exact s.get b hb hn
theorem zfk {c c':Nat->Nat}:∀ {k:Nat},(∀ n<k,c' n=c n)->msum c' k=msum c k
 | 0,_=>rfl
 | k+1,h=>by rw [msum,msum,zfk λn hn=>h n (by omega),h k (by omega)]
def syms (L:List Int) (i:Nat):List Int:=((List.range i).filter λj=>decide (0<L.getD j 0)).map λj=>((j:Nat):Int)
theorem ze6 (L:List Int) (i:Nat):syms L (i+1)=syms L i++if 0<L.getD i 0 then [((i:Nat):Int)] else []:=by
 unfold syms
 rw [List.range_succ,List.filter_append,List.map_append]
 congr 1
 by_cases h:0<L.getD i 0
 · rw [if_pos h,List.filter_cons_of_pos (p:=λj=>decide (0<L.getD j 0)) (decide_eq_true h)];rfl
 · rw [if_neg h,List.filter_cons_of_neg (p:=λj=>decide (0<L.getD j 0)) (by simpa using h)];rfl
theorem zgj {L:List Int}:∀ {i:Nat},i<=L.length->(syms L i).length=many (L.take i)
 | 0,_=>rfl
 | i+1,h=>by
   rw [ze6,List.length_append,zgj (by omega),z6Q (by omega),zA (by omega)]
   split<;>rfl
theorem zfA {L:List Int} {i:Nat} {x:Int} (h:x∈syms L i):∃ j:Nat,x=j/\j<i/\0<L.getD j 0:=by
 unfold syms at h
 obtain ⟨j,hj,rfl⟩:=List.mem_map.1 h
 rw [List.mem_filter,List.mem_range] at hj
 exact ⟨j,rfl,hj.1,of_decide_eq_true hj.2⟩
def lkey (L:List Int) (x:Int):Int:=L.getD x.toNat 0
theorem zfM {L:List Int} (n:Nat) (hn:0<n):∀ {i:Nat},i<=L.length->((syms L i).filter λx=>decide (lkey L x=n)).length=cN (L.take i) n/\∀ j:Nat,j<i->L.getD j 0=n->((syms L i).filter λx=>decide (lkey L x=n))[cN (L.take j) n]? = some (j:Int)
 | 0,_=>⟨by simp [syms,cN],λj h=>by omega⟩
 | i+1,h=>by
   obtain ⟨h1,h2⟩:=zfM (L:=L) n hn (i:=i) (by omega)
   rw [ze6,List.filter_append,z1P (by omega)]
   have hg:=zA (L:=L) (i:=i) (by omega)
   by_cases h0:0<L.getD i 0
   · rw [if_pos h0]
     by_cases hk:L.getD i 0=n
     · rw [List.filter_cons_of_pos (by simp [lkey];exact hk),if_pos (by rw [<- hg];exact ⟨h0,hk⟩)]
       refine ⟨by simp [h1],λj hj he=>?_⟩
       rcases Nat.eq_or_lt_of_le (Nat.le_of_lt_succ hj) with rfl | hj
       · rw [<- h1];simp
       · have:=h2 j hj he
         rw [List.getElem?_append_left (List.getElem?_eq_some_iff.1 this).1];exact this
     · rw [List.filter_cons_of_neg (by simp [lkey];exact hk),if_neg (by rw [<- hg];exact λh=>hk h.2)]
       refine ⟨by simp [h1],λj hj he=>?_⟩
       rcases Nat.eq_or_lt_of_le (Nat.le_of_lt_succ hj) with rfl | hj
       · exact absurd he hk
       · rw [List.filter_nil,List.append_nil];exact h2 j hj he
   · rw [if_neg h0,if_neg (by rw [<- hg];exact λh=>h0 h.1)]
     refine ⟨by simp [h1],λj hj he=>?_⟩
     rcases Nat.eq_or_lt_of_le (Nat.le_of_lt_succ hj) with rfl | hj
     · omega
     · rw [List.filter_nil,List.append_nil];exact h2 j hj he
theorem znc {L:List Int} (hL:∀ x∈L,0<=x/\x<=15) (T:List Int) (s:Stb (lkey L) (syms L L.length) T):∀ n:Nat,(T.filter λx=>decide (lkey L x<(n+1:Nat))).length=msum (cN L) (n+1):=by
 intro n
 have hT:∀ x∈T,0<lkey L x:=λx hx=>by
  obtain ⟨j,rfl,_,h⟩:=zfA ((s.mem x).1 hx)
  exact h
 have key:∀ (n:Nat) (T:List Int),(∀ x∈T,0<lkey L x)->(T.filter λx=>decide (lkey L x<(n+1:Nat))).length=msum (λk=>(T.filter λx=>decide (lkey L x=(k:Nat))).length) (n+1):=by
  intro n T hT
  induction n with
  | zero=>
    rw [List.filter_eq_nil_iff.2 λx hx=>by have:=hT x hx;simp;omega]
    rw [msum,msum,List.filter_eq_nil_iff.2 λx hx=>by have:=hT x hx;simp;omega];rfl
  | succ n ih=>
    rw [msum,<- ih]
    clear ih hT
    induction T with
    | nil=>rfl
    | cons x T ih=>
      rw [List.filter_cons,List.filter_cons,List.filter_cons]
      rcases Int.lt_trichotomy (lkey L x) (n+1:Nat) with h | h | h
      · rw [if_pos (by simp;omega),if_pos (by simp;omega),if_neg (by simp;omega),List.length_cons,List.length_cons,ih];omega
      · rw [if_pos (by simp;omega),if_neg (by simp;omega),if_pos (by simp;omega),List.length_cons,List.length_cons,ih];omega
      · rw [if_neg (by simp;omega),if_neg (by simp;omega),if_neg (by simp;omega),ih]
 rw [key n T hT]
 refine zfk λk hk=>?_
 rw [s.2 k]
 rcases Nat.eq_zero_or_pos k with rfl | h0
 · rw [zci]
   rw [List.filter_eq_nil_iff.2 λx hx=>λhd=>by
    obtain ⟨j,rfl,_,h⟩:=zfA hx
    have e:lkey L ((j:Nat):Int)=L.getD j 0:=rfl
    have:=of_decide_eq_true hd
    omega];rfl
 · rw [(zfM k h0 (Nat.le_refl _)).1,List.take_length]
end Go.Vit
end
section
namespace Go.Vit
def fnd (L:List Int) (n c:Nat):Option Nat:=(List.range L.length).find? λi=>decide (L.getD i 0=n/\cd L i=c)
theorem zki {L:List Int} {n c i:Nat} (hi:i<L.length) (h:L.getD i 0=n/\cd L i=c) (hn:∀ j<i,¬ (L.getD j 0=n/\cd L j=c)):fnd L n c=some i:=by
 unfold fnd
 rw [List.find?_range_eq_some]
 exact ⟨by simpa using h,by simpa using hi,λj hj=>by rw [decide_eq_false (hn j hj)];rfl⟩
theorem zjx {L:List Int} {n c:Nat} (hn:∀ j<L.length,¬ (L.getD j 0=n/\cd L j=c)):fnd L n c=none:=by
 unfold fnd
 rw [List.find?_range_eq_none]
 exact λj hj=>by rw [decide_eq_false (hn j hj)];rfl
theorem zmE {L:List Int} {n:Nat} (h0:0<n):∀ {i:Nat},i<=L.length->∀ k<cN (L.take i) n,∃ j<i,L.getD j 0=n/\cN (L.take j) n=k
 | 0,_,k,hk=>by simp [cN] at hk
 | i+1,hi,k,hk=>by
   have hil:i<L.length:=by omega
   rw [z1P hil] at hk
   by_cases h:0<L[i]/\L[i]=n
   · rw [if_pos h] at hk
     rcases Nat.eq_or_lt_of_le (Nat.le_of_lt_succ hk) with rfl | hk
     · exact ⟨i,by omega,by rw [zA hil];exact h.2,rfl⟩
     · obtain ⟨j,h1,h2⟩:=zmE (L:=L) h0 (i:=i) (by omega) k hk
       exact ⟨j,by omega,h2⟩
   · rw [if_neg h] at hk
     obtain ⟨j,h1,h2⟩:=zmE (L:=L) h0 (i:=i) (by omega) k (by omega)
     exact ⟨j,by omega,h2⟩
theorem zcE {L:List Int} {n:Nat} {i:Nat}:∀ {j:Nat},i<=j->j<=L.length->cN (L.take i) n<=cN (L.take j) n
 | 0,h,_=>by obtain rfl:i=0:=by omega
             exact Nat.le_refl _
 | j+1,h,hj=>by
   rcases Nat.eq_or_lt_of_le h with rfl | h
   · exact Nat.le_refl _
   · have:=zcE (L:=L) (n:=n) (i:=i) (j:=j) (by omega) (by omega)
     rw [z1P (by omega)];omega
theorem z4v {L:List Int} {n i j:Nat} (h0:0<n) (hij:i<j) (hj:j<=L.length) (hi:L.getD i 0=n):cN (L.take i) n<cN (L.take j) n:=by
 have h:=zcE (L:=L) (n:=n) (i:=i+1) (j:=j) (by omega) hj
 rw [z1P (by omega),if_pos (by rw [<- zA (L:=L) (by omega)];omega)] at h
 omega
theorem zlC {L:List Int} {n i:Nat} (h0:0<n) (h:L.getD i 0=n):cd L i=fc L n+cN (L.take i) n:=by
 unfold cd
 rw [h,if_pos (by omega),Int.toNat_natCast]
theorem zjf {L:List Int} {n c:Nat} (h0:0<n) (h1:fc L n<=c) (h2:c-fc L n<cN L n):∃ i<L.length,L.getD i 0=n/\cN (L.take i) n=c-fc L n/\fnd L n c=some i:=by
 obtain ⟨i,hi,he,hk⟩:=zmE (L:=L) h0 (i:=L.length) (Nat.le_refl _) (c-fc L n) (by rw [List.take_length];exact h2)
 refine ⟨i,hi,he,hk,zki hi ⟨he,by rw [zlC h0 he];omega⟩ ?_⟩
 rintro j hj ⟨e1,e2⟩
 rw [zlC h0 e1] at e2
 have:=z4v h0 hj (by omega) e1
 omega
theorem zou {L:List Int} {n c:Nat} (h0:0<n) (h:fc L n+cN L n<=c):fnd L n c=none:=by
 refine zjx ?_
 rintro j hj ⟨e1,e2⟩
 rw [zlC h0 e1] at e2
 have:=z4v h0 hj (Nat.le_refl _) e1
 rw [List.take_length] at this
 omega
def dec (L:List Int) (s:ByteArray):Nat->Nat->Nat->Nat->Int×Int×Nat
 | 0,_,_,at'=>(0,12,at')
 | k+1,n,c,at'=>if 8*s.size<=at' then (0,3,at') else match fnd L n (2*c+z2T s at') with
   | some i=>((i:Nat),0,at'+1)
   | none=>dec L s k (n+1) (2*c+z2T s at') (at'+1)
def z1T (L:List Int):Nat:=if many L<2 then many L else 15
theorem zeZ {L:List Int} {s:ByteArray}:∀ (k n c:Nat) {at':Nat},at'<=8*s.size->(dec L s k n c at').2.2<=8*s.size
 | 0,_,_,_,h=>h
 | k+1,n,c,at',h=>by
   unfold dec
   split
   · exact h
   · split
     · show at'+1<=_;omega
     · exact zeZ k _ _ (by omega)
theorem zgV (L:List Int):room L<=many L*16384:=by
 unfold room many
 induction L with
 | nil=>simp
 | cons x L ih=>
   rw [List.map_cons,List.sum_cons,List.countP_cons,Nat.add_mul]
   by_cases h:0<x
   · rw [if_pos h,if_pos (decide_eq_true h)]
     have:2^(15-x).toNat<=2^14:=z1D (by omega)
     omega
   · rw [if_neg h,if_neg (by simpa using h)];omega
theorem zkK {L:List Int} (hc:chk L=0):((if many L=1/\most L=1 then 1 else if many L=0 then 0 else 15:Nat))=z1T L:=by
 unfold z1T
 by_cases h0:many L=0
 · rw [if_neg (by omega),if_pos h0,if_pos (by omega),h0]
 · by_cases h1:many L=1
   · have hm:most L=1:=by
      have h2:=(zgd (L:=L) (i:=L.length) (Nat.le_refl _)).2
      rw [List.take_length] at h2
      refine (h2 h1).2 λe=>?_
      have hr:=zgV L
      unfold chk at hc
      split at hc
      · exact absurd hc (by decide)
      · split at hc
        · exact absurd hc (by decide)
        · rw [if_pos ⟨by omega,by omega,λh=>h.2 e⟩] at hc
          exact absurd hc (by decide)
     rw [if_pos ⟨h1,hm⟩,if_pos (by omega),h1]
   · rw [if_neg (by omega),if_neg h0,if_neg (by omega)]
end Go.Vit
end
section
namespace Go.Vit
theorem zpR (L:List Int) (j:Nat):∀ k,(fc L j+cN L j)*2^(k+1)<=fc L (j+(k+1))
 | 0=>by rw [Nat.zero_add,Nat.pow_one,fc];exact Nat.le_refl _
 | k+1=>by
   have:=zpR L j k
   rw [show j+(k+1+1)=(j+(k+1))+1 from rfl,fc,Nat.pow_succ,<- Nat.mul_assoc]
   exact Nat.mul_le_mul_right 2 (Nat.le_trans this (Nat.le_add_right _ _))
theorem kraft (L:List Int):∀ n,n<=15->(fc L n+cN L n)*2^(15-n)=wsum (cN L) (n+1)
 | 0,_=>by rw [fc,wsum,wsum,Nat.zero_add,Nat.zero_add]
 | n+1,h=>by
   have:=kraft L n (by omega)
   rw [wsum,<- this,fc,show 15-n=(15-(n+1))+1 from by omega,Nat.pow_succ,Nat.add_mul]
   congr 1
   rw [Nat.mul_assoc,Nat.mul_comm 2]
theorem z2p {L:List Int} (h:chk L=0):lens L/\room L<=32768:=by
 unfold chk at h
 split at h
 · exact absurd h (by decide)
 · rename_i hl
   split at h
   · exact absurd h (by decide)
   · exact ⟨Classical.not_not.1 hl,by omega⟩
theorem zlJ {L:List Int} (hc:chk L=0) {n i:Nat} (h0:0<n) (hi:i<L.length) (h:L.getD i 0=n):cd L i<2^n/\n<=15:=by
 obtain ⟨hL,hr⟩:=z2p hc
 have hn:n<=15:=by
  rw [zA hi] at h
  have:=hL.2 _ (List.getElem_mem hi)
  omega
 refine ⟨?_,hn⟩
 have h1:=z4v h0 hi (Nat.le_refl _) h
 rw [List.take_length] at h1
 have h2:=kraft L n hn
 have h3:=zgx (c:=cN L) (k:=n+1) (m:=16) (by omega)
 rw [(sums hL.2).2,<- h2] at h3
 have h4:(fc L n+cN L n)*2^(15-n)<=2^n*2^(15-n):=by
  rw [<- Nat.pow_add,show n+(15-n)=15 from by omega]
  exact Nat.le_trans h3 hr
 have h5:=Nat.le_of_mul_le_mul_right h4 (Nat.two_pow_pos _)
 rw [zlC h0 h]
 omega
theorem znB {c:Nat->Nat} {a b k:Nat} (h1:a<b) (h2:b<k):c a+c b<=msum c k:=by
 have h3:=zaj (c:=c) (k:=b+1) (m:=k) (by omega)
 have h4:=zaj (c:=c) (k:=a+1) (m:=b) (by omega)
 rw [msum] at h3 h4
 omega
theorem znq {L:List Int} (hc:chk L=0) {n i:Nat} (h0:0<n) (hi:i<L.length) (h:L.getD i 0=n):n<=z1T L:=by
 obtain ⟨hL,hr⟩:=z2p hc
 have hn:=(zlJ hc h0 hi h).2
 have h1:=z4v h0 hi (Nat.le_refl _) h
 rw [List.take_length] at h1
 have hs:=(sums hL.2).1
 unfold z1T
 by_cases hm:many L<2
 · rw [if_pos hm]
   have hle:=zaj (c:=cN L) (k:=n+1) (m:=16) (by omega)
   rw [msum,hs] at hle
   have hm1:many L=1:=by omega
   have hc1:cN L 1≠0:=λe=>by
    have hr:=zgV L
    unfold chk at hc
    split at hc
    · exact absurd hc (by decide)
    · split at hc
      · exact absurd hc (by decide)
      · rw [if_pos ⟨by omega,by omega,λh=>h.2 e⟩] at hc
        exact absurd hc (by decide)
   rcases Nat.lt_trichotomy n 1 with h' | rfl | h'
   · omega
   · omega
   · have:=znB (c:=cN L) h' (show n<16 by omega)
     omega
 · rw [if_neg hm];exact hn
end Go.Vit
end
section
namespace Go.Vit
def RdO (k:Nat) (σ:Mem) (v:AV) (cs:List AV) (n:Nat):Prop:=
 (v=.nils/\n=0/\cs=[])\/∃ b z c,v=.slice b z n c/\cs.length=n*k/\∃ q cells,σ.get b=some q/\q.cellsR=some cells/\(cells.drop z).take (n*k)=cs/\z+n*k<=cells.length
theorem RdO.mk {k n b:Nat} {c:Cap} {σ:Mem} {v:AV} {cs:List AV} (hv:v=.slice b 0 n c) (hg:∃ q,σ.get b=some q/\q.cellsR=some cs) (hl:cs.length=n*k):RdO k σ v cs n:=by
 obtain ⟨q,h1,h2⟩:=hg
 exact .inr ⟨b,0,c,hv,hl,q,cs,h1,h2,by rw [List.drop_zero,<- hl,List.take_length],by omega⟩
theorem z1Q.rdO {k n:Nat} {σ:Mem} {v:AV} {cs:List AV} (h:z1Q k σ v cs n):RdO k σ v cs n:=by
 rcases h with h | ⟨b,h1,h2,h3⟩
 · exact .inl h
 · exact .mk h1 ⟨_,h2,rfl⟩ h3
theorem RdS.o {k n:Nat} {σ:Mem} {v:AV} {cs:List AV} (h:RdS k σ v cs n):RdO k σ v cs n:=by
 rcases h with h | ⟨b,c,h1,h2,h3⟩
 · exact .inl h
 · exact .mk h1 h2 h3
theorem RdO.len {k n:Nat} {σ:Mem} {v:AV} {cs:List AV} (h:RdO k σ v cs n) {K:Int->Prop} (hk:K (n:Nat)):zx v K:=by
 rcases h with ⟨rfl,rfl,rfl⟩ | ⟨b,z,c,rfl,_⟩<;>exact hk
theorem RdO.keep {k n:Nat} {σ σ':Mem} {v:AV} {cs:List AV} (h:RdO k σ v cs n) (hb:∀ b∈z3 v,σ'.get b=σ.get b):RdO k σ' v cs n:=by
 rcases h with h | ⟨b,z,c,rfl,h3,q,cells,h1,h2⟩
 · exact .inl h
 · exact .inr ⟨b,z,c,rfl,h3,q,cells,(hb b (by simp [z3])).trans h1,h2⟩
theorem RdO.lt {k n:Nat} {σ:Mem} {v:AV} {cs:List AV} (h:RdO k σ v cs n) (live:σ.Live):∀ b∈z3 v,b<σ.next:=by
 rcases h with ⟨rfl,_⟩ | ⟨b,z,c,rfl,h3,q,cells,h1,_⟩
 · intro b hb;simp [z3] at hb
 · intro c hc;simp [z3] at hc;subst hc;exact live.lt h1
theorem zir {σ:Mem} {k n:Nat} {v:AV} {cs:List AV} (h:RdO k σ v cs n) (K:Nat->List AV->Prop) (hk:K n cs):zlj σ k v K:=by
 rcases h with ⟨rfl,rfl,rfl⟩ | ⟨b,z,c,rfl,h3,q,cells,h1,h2,h4,h5⟩
 · exact hk
 · refine opt (a:=σ.cells b z (n*k)) (v:=cs) ?_ hk
   unfold Mem.cells
   rw [h1,Option.bind_some,h2,Option.bind_some,if_pos h5,h4]
theorem zgY {k bytes id nb n:Nat} {σ:Mem} {x:AV} {cs:List AV} {K:AV->Mem->Prop} (hb:σ.get nb=some (.rw [])) (hx:RdO k σ x cs n) (h1:cs.all AV.one=true) (hr:n*bytes<=140737488355328/\n<=9223372036854775806)
 (h0:n=0->K (.slice nb 0 0 (.ex 0)) σ) (hk:n≠0->K (.slice id 0 n (.op k)) (σ.put id (some (.rw cs)))):apW k bytes id σ (.slice nb 0 0 (.ex 0)) x K:=by
 unfold apW
 refine zir hx _ ⟨h1,h0,λhn=>⟨λh=>absurd h (by omega),λ_=>⟨by rw [Nat.zero_add];exact hr,?_⟩⟩⟩
 refine opt (v:=[]) ?_ ⟨rfl,?_⟩
 · rw [Mem.cells_of hb];simp
 · rw [Nat.zero_add];exact hk hn
theorem RdO.iat {σ:Mem} {v:AV} {L:List Int} {n:Nat} (h:RdO 1 σ v (ic L) n) {i:Nat} {x:Int} (hx:L[i]? = some x) (hn:i<n) (_:i<L.length):∃ b z c,v=.slice b z n c/\∀ {K:AV->Prop} (m:Nat),K (.int .i64 x)->ldW (σ.bump m) (.ptr b (z+i)) K:=by
 rcases h with ⟨_,rfl,_⟩ | ⟨b,z,c,rfl,h3,q,cells,h1,h2,h4,h5⟩
 · omega
 · refine ⟨b,z,c,rfl,λm hk=>ldq (σ:=σ.bump m) h1 ?_ hk⟩
   rw [h2]
   show cells[z+i]? = _
   have e:(ic L)[i]? = some (.int .i64 x):=by
    have hi:=(List.getElem?_eq_some_iff.1 hx).1
    rw [zdW hi]
    rw [List.getElem?_eq_getElem hi] at hx
    injection hx with hx
    rw [hx]
   rw [<- h4,List.getElem?_take_of_lt (by omega),List.getElem?_drop] at e
   exact e
theorem RdO.at {σ:Mem} {v:AV} {L:List Int} (h:RdO 1 σ v (ic L) L.length) {i:Nat} (hi:i<L.length):∃ b z c,v=.slice b z L.length c/\∀ {K:AV->Prop} (n:Nat),K (.int .i64 L[i])->ldW (σ.bump n) (.ptr b (z+i)) K:=
 h.iat (List.getElem?_eq_getElem hi) hi hi
theorem RdO.take {σ:Mem} {b n k:Nat} {c c':Cap} {L:List Int} (h:RdO 1 σ (.slice b 0 n c) (ic L) n) (hk:k<=n):RdO 1 σ (.slice b 0 k c') (ic (L.take k)) k:=by
 rcases h with ⟨h,_⟩ | ⟨b',z,c',e,h3,q,cells,h1,h2,h4,h5⟩
 · exact absurd h (by simp)
 · injection e with e1 e2
   subst e1 e2
   rw [List.drop_zero] at h4
   have hl:(ic (L.take k))=(ic L).take k:=by unfold ic;rw [List.map_take]
   refine .inr ⟨b,0,_,rfl,?_,q,cells,h1,h2,?_,by omega⟩
   · rw [hl,List.length_take,h3];omega
   · rw [hl,<- h4,List.drop_zero,List.take_take,Nat.min_eq_left (by omega)]
     congr 1;omega
theorem RdO.drop {σ:Mem} {b n k:Nat} {c c':Cap} {L:List Int} (h:RdO 1 σ (.slice b 0 n c) (ic L) n) (hk:k<=n):RdO 1 σ (.slice b k (n-k) c') (ic (L.drop k)) (n-k):=by
 rcases h with ⟨h,_⟩ | ⟨b',z,c',e,h3,q,cells,h1,h2,h4,h5⟩
 · exact absurd h (by simp)
 · injection e with e1 e2
   subst e1 e2
   rw [List.drop_zero] at h4
   have hl:(ic (L.drop k))=(ic L).drop k:=by unfold ic;rw [List.map_drop]
   refine .inr ⟨b,k,_,rfl,?_,q,cells,h1,h2,?_,by omega⟩
   · rw [hl,List.length_drop,h3];omega
   · rw [hl,<- h4,List.drop_take]
     congr 1;omega
end Go.Vit
end
section
namespace Go.Vit
variable {P:Program} {σ:Mem}
end Go.Vit
end
section
namespace Go.Vit
inductive Pm where
 | coin (n:Int) (s:Nat)
 | pair (a b:Pm)
def Pm.wt:Pm->Int
 | .coin n _=>n
 | .pair a b=>a.wt+b.wt
def Pm.cnt (i:Nat):Pm->Nat
 | .coin _ s=>if s=i then 1 else 0
 | .pair a b=>a.cnt i+b.cnt i
def Pm.sz:Pm->Nat
 | .coin _ _=>1
 | .pair a b=>a.sz+b.sz
def Pm.syb (m:Nat):Pm->Prop
 | .coin _ s=>s<m
 | .pair a b=>a.syb m/\b.syb m
def pks:List Pm->List Pm
 | a::b::r=>.pair a b::pks r
 | _=>[]
theorem za2:∀ l:List Pm,(pks l).length=l.length / 2
 | []=>rfl
 | [_]=>by simp [pks]
 | a::b::r=>by rw [pks,List.length_cons,za2 r,List.length_cons,List.length_cons];omega
theorem zlT {p:Pm->Prop} {q:Pm->Prop} (h:∀ a b,p a->p b->q (.pair a b)):∀ {l:List Pm},(∀ x∈l,p x)->∀ x∈pks l,q x
 | [],_,x,hx=>by simp [pks] at hx
 | [_],_,x,hx=>by simp [pks] at hx
 | a::b::r,hl,x,hx=>by
   rw [pks] at hx
   rcases List.mem_cons.1 hx with rfl | hx
   · exact h a b (hl a (by simp)) (hl b (by simp))
   · exact zlT h (l:=r) (λy hy=>hl y (by simp [hy])) x hx
/-! ### What is sorted -/
section
variable {α:Type} {key:α->Int}
theorem zhh:∀ {C C':List α},Stb key C C'->Srt key C->Srt key C'->C'=C
 | [],C',h,_,_=>List.length_eq_zero_iff.1 h.1
 | x::C,[],h,_,_=>by have:=h.1;simp at this
 | x::C,y::C',h,h1,h2=>by
   have hx:x∈y::C':=(h.mem x).2 (by simp)
   have hy:y∈x::C:=(h.mem y).1 (by simp)
   have hxy:key x=key y:=by
    have a:key y<=key x:=by
     rcases List.mem_cons.1 hx with rfl | hx
     · exact Int.le_refl _
     · exact (List.pairwise_cons.1 h2).1 x hx
    have b:key x<=key y:=by
     rcases List.mem_cons.1 hy with rfl | hy
     · exact Int.le_refl _
     · exact (List.pairwise_cons.1 h1).1 y hy
    omega
   have he:=h.2 (key x)
   rw [List.filter_cons_of_pos (by simpa using hxy.symm),List.filter_cons_of_pos (by simp)] at he
   injection he with e1 e2
   subst e1
   have ht:Stb key C C':=by
    refine ⟨by have:=h.1;simpa using this,λv=>?_⟩
    have hv:=h.2 v
    by_cases hk:key y=v
    · rw [List.filter_cons_of_pos (by simp [hk]),List.filter_cons_of_pos (by simp [hk])] at hv
      injection hv
    · rw [List.filter_cons_of_neg (by simp [hk]),List.filter_cons_of_neg (by simp [hk])] at hv
      exact hv
   rw [zhh ht (List.pairwise_cons.1 h1).2 (List.pairwise_cons.1 h2).2]
theorem zqu {X C C':List α} (h1:Stb key X C) (s1:Srt key C) (h2:Stb key X C') (s2:Srt key C'):C'=C:=
 zhh ⟨h2.1.trans h1.1.symm,λv=>(h2.2 v).trans (h1.2 v).symm⟩ s1 s2
end
section
variable {α β:Type} {key:α->Int} {key':β->Int} {f:α->β}
theorem z9G {l:List α} (h:∀ x∈l,key' (f x)=key x) (v:Int):(l.map f).filter (λx=>decide (key' x=v))=(l.filter λx=>decide (key x=v)).map f:=by
 induction l with
 | nil=>rfl
 | cons a l ih=>
   have ha:=h a (by simp)
   have ih:=ih λx hx=>h x (by simp [hx])
   rw [List.map_cons]
   by_cases hk:key a=v
   · rw [List.filter_cons_of_pos (by simp [ha,hk]),List.filter_cons_of_pos (by simp [hk]),List.map_cons,ih]
   · rw [List.filter_cons_of_neg (by simp [ha,hk]),List.filter_cons_of_neg (by simp [hk]),ih]
theorem Stb.map {X C:List α} (h:Stb key X C) (hk:∀ x∈X,key' (f x)=key x):Stb key' (X.map f) (C.map f):=by
 refine ⟨by rw [List.length_map,List.length_map,h.1],λv=>?_⟩
 rw [z9G hk,z9G λx hx=>hk x ((h.mem x).1 hx),h.2 v]
theorem Srt.map {C:List α} (h:Srt key C) (hk:∀ x∈C,key' (f x)=key x):Srt key' (C.map f):=by
 unfold Srt at h ⊢
 rw [List.pairwise_map]
 exact h.imp_of_mem λ{a b} ha hb hab=>by rw [hk a ha,hk b hb];exact hab
end
def zkf (x:Pm):List Pm->List Pm
 | []=>[x]
 | y::l=>if y.wt<=x.wt then y::zkf x l else x::y::l
theorem zjo {x y:Pm}:∀ {l:List Pm},y∈zkf x l↔y=x\/y∈l
 | []=>by simp [zkf]
 | z::l=>by
   unfold zkf
   split
   · rw [List.mem_cons,zjo (l:=l),List.mem_cons]
     constructor
     · rintro (h | h | h)
       · exact .inr (.inl h)
       · exact .inl h
       · exact .inr (.inr h)
     · rintro (h | h | h)
       · exact .inr (.inl h)
       · exact .inl h
       · exact .inr (.inr h)
   · rw [List.mem_cons]
theorem zls (x:Pm):∀ {l:List Pm},Srt Pm.wt l->Stb Pm.wt (l++[x]) (zkf x l)/\Srt Pm.wt (zkf x l)
 | [],_=>⟨Stb.refl _,List.pairwise_singleton _ _⟩
 | y::l,h=>by
   have hy:=(List.pairwise_cons.1 h).1
   obtain ⟨h1,h2⟩:=zls x (List.pairwise_cons.1 h).2
   unfold zkf
   split
   · rename_i hle
     refine ⟨(Stb.refl [y]).append h1,List.pairwise_cons.2 ⟨λz hz=>?_,h2⟩⟩
     rcases zjo.1 hz with rfl | hz
     · exact hle
     · exact hy z hz
   · rename_i hlt
     have t:Stb Pm.wt ((y::l)++[x]) ([x]++(y::l)):=Stb.swap λa ha b hb=>by
      rw [List.mem_singleton] at hb
      subst hb
      rcases List.mem_cons.1 ha with rfl | ha
      · omega
      · have:=hy a ha;omega
     refine ⟨t,List.pairwise_cons.2 ⟨λz hz=>?_,h⟩⟩
     rcases List.mem_cons.1 hz with rfl | hz
     · omega
     · have:=hy z hz;omega
def isort (X:List Pm):List Pm:=X.foldl (λacc x=>zkf x acc) []
theorem z7D (X:List Pm):Stb Pm.wt X (isort X)/\Srt Pm.wt (isort X):=by
 have:∀ (Y acc Z:List Pm),Stb Pm.wt Z acc->Srt Pm.wt acc->Stb Pm.wt (Z++Y) (Y.foldl (λacc x=>zkf x acc) acc)/\Srt Pm.wt (Y.foldl (λacc x=>zkf x acc) acc):=by
  intro Y
  induction Y with
  | nil=>intro acc Z h1 h2;rw [List.append_nil];exact ⟨h1,h2⟩
  | cons y Y ih=>
    intro acc Z h1 h2
    obtain ⟨h3,h4⟩:=zls y h2
    have:=ih (zkf y acc) (Z++[y]) ((h1.append (Stb.refl [y])).trans h3) h4
    rw [List.append_assoc,List.singleton_append] at this
    exact this
 exact this X [] [] (Stb.refl _) List.Pairwise.nil
theorem zgi {X C:List Pm} (h:Stb Pm.wt X C) (s:Srt Pm.wt C):C=isort X:=zqu (z7D X).1 (z7D X).2 h s
theorem z6Z (X:List Pm):(isort X).length=X.length:=(z7D X).1.1
theorem zaM {X:List Pm} {x:Pm}:x∈isort X↔x∈X:=(z7D X).1.mem x
/-! ### Rows -/
def rows (C:List Pm):Nat->List Pm
 | 0=>C
 | k+1=>isort (C++pks (rows C k))
theorem zg7 (C:List Pm):∀ (k c:Nat),C.length<=c*2^k->2*C.length<=(rows C k).length+c
 | 0,c,h=>by rw [rows];omega
 | k+1,c,h=>by
   have ih:=zg7 C k (2*c) (by rw [Nat.pow_succ] at h;rw [Nat.mul_comm 2 c,Nat.mul_assoc,Nat.mul_comm 2];exact h)
   rw [rows,z6Z,List.length_append,za2]
   omega
theorem zmA (C:List Pm):∀ k,(rows C k).length<=2*C.length
 | 0=>by rw [rows];omega
 | k+1=>by
   have:=zmA C k
   rw [rows,z6Z,List.length_append,za2]
   omega
theorem zfL {C:List Pm} {p:Nat->Pm->Prop} (h0:∀ x∈C,∀ k,p k x) (hp:∀ k a b,p k a->p k b->p (k+1) (.pair a b)):∀ k,∀ x∈rows C k,p k x
 | 0,x,hx=>h0 x hx 0
 | k+1,x,hx=>by
   rw [rows,zaM,List.mem_append] at hx
   rcases hx with hx | hx
   · exact h0 x hx _
   · exact zlT (p:=p k) (q:=p (k+1)) (hp k) (zfL h0 hp k) x hx
def zX (L:List Int) (i:Nat):List Pm:=((List.range i).filter λj=>decide (0<L.getD j 0)).map λj=>Pm.coin (L.getD j 0) j
theorem zcD (L:List Int) (i:Nat):zX L (i+1)=zX L i++if 0<L.getD i 0 then [Pm.coin (L.getD i 0) i] else []:=by
 unfold zX
 rw [List.range_succ,List.filter_append,List.map_append]
 by_cases h:0<L.getD i 0
 · rw [if_pos h,List.filter_cons_of_pos (by simpa using h)];rfl
 · rw [if_neg h,List.filter_cons_of_neg (by simpa using h)];rfl
theorem zai (L:List Int) (i:Nat):(zX L i).length<=i:=by
 unfold zX
 rw [List.length_map]
 exact Nat.le_trans (List.length_filter_le _ _) (by rw [List.length_range];omega)
theorem z4s {L:List Int} {i:Nat} {x:Pm} (h:x∈zX L i):∃ j,j<i/\0<L.getD j 0/\x=.coin (L.getD j 0) j:=by
 unfold zX at h
 rw [List.mem_map] at h
 obtain ⟨j,hj,rfl⟩:=h
 rw [List.mem_filter,List.mem_range] at hj
 exact ⟨j,hj.1,by simpa using hj.2,rfl⟩
def zk (L:List Int):List Pm:=zX L L.length
def z8I (i:Nat) (l:List Pm):Nat:=(l.map (Pm.cnt i)).sum
theorem zdF (i:Nat) (l m:List Pm):z8I i (l++m)=z8I i l+z8I i m:=by unfold z8I;rw [List.map_append,List.sum_append]
theorem zkb (i:Nat) (x:Pm):z8I i [x]=x.cnt i:=by simp [z8I]
def zgP (l:List Pm):Nat:=(l.map Pm.sz).sum
theorem zlu (i:Nat):∀ x:Pm,x.cnt i<=x.sz
 | .coin _ s=>by unfold Pm.cnt Pm.sz;split<;>omega
 | .pair a b=>by unfold Pm.cnt Pm.sz;have:=zlu i a;have:=zlu i b;omega
def addc (A:List Int) (l:List Pm):List Int:=arr (λi=>A.getD i 0+z8I i l) A.length
def limit (most:Nat) (L:List Int):List Int:=
 if (zk L).length=1 then arr (λi=>z8I i (zk L)) L.length
 else arr (λi=>z8I i ((rows (isort (zk L)) (most-1)).take (2*(zk L).length-2))) L.length
def zi4 (most:Int) (L:List Int):Prop:=most<1\/15<most\/288<L.length\/(∃ n∈L,n<0\/1000000000<n)\/2^most.toNat<(zk L).length
end Go.Vit
end
section
namespace Go.Vit
theorem zjy {α:Type} (f:α->Nat) {l l':List α} (h:l.Perm l'):(l.map f).sum=(l'.map f).sum:=by
 induction h with
 | nil=>rfl
 | cons x _ ih=>simp only [List.map_cons,List.sum_cons,ih]
 | swap x y l=>simp only [List.map_cons,List.sum_cons];omega
 | trans _ _ ih1 ih2=>exact ih1.trans ih2
theorem zgU (x:Pm):∀ l:List Pm,(zkf x l).Perm (x::l)
 | []=>.refl _
 | y::l=>by
   unfold zkf
   split
   · exact ((zgU x l).cons y).trans (.swap x y l)
   · exact .refl _
theorem zfb:∀ (X acc:List Pm),(X.foldl (λacc x=>zkf x acc) acc).Perm (X++acc)
 | [],acc=>.refl _
 | x::X,acc=>by
   rw [List.foldl_cons]
   refine (zfb X _).trans ?_
   refine ((zgU x acc).append_left X).trans ?_
   exact List.perm_middle
theorem zeY (X:List Pm):(isort X).Perm X:=by
 have:=zfb X []
 rw [List.append_nil] at this
 exact this
/-! ### Rows are merged -/
def mrg:List Pm->List Pm->List Pm
 | [],P=>P
 | C,[]=>C
 | a::C,b::P=>if a.wt<=b.wt then a::mrg C (b::P) else b::mrg (a::C) P
termination_by C P=>C.length+P.length
theorem zml (P:List Pm):mrg [] P=P:=by unfold mrg;rfl
theorem zjU (C:List Pm):mrg C []=C:=by cases C<;>(unfold mrg;rfl)
theorem zjt (a b:Pm) (C P:List Pm):mrg (a::C) (b::P)=if a.wt<=b.wt then a::mrg C (b::P) else b::mrg (a::C) P:=by
 rw [mrg]
theorem zkk:∀ (N:Nat) (C P:List Pm),C.length+P.length<=N->Srt Pm.wt C->Srt Pm.wt P->Stb Pm.wt (C++P) (mrg C P)/\Srt Pm.wt (mrg C P)
 | _,[],P,_,_,h2=>by rw [zml];exact ⟨Stb.refl _,h2⟩
 | _,a::C,[],_,h1,_=>by rw [zjU,List.append_nil];exact ⟨Stb.refl _,h1⟩
 | 0,a::C,b::P,h,_,_=>by simp at h
 | N+1,a::C,b::P,h,h1,h2=>by
   have ha:=(List.pairwise_cons.1 h1).1
   have hb:=(List.pairwise_cons.1 h2).1
   simp only [List.length_cons] at h
   rw [zjt]
   split
   · rename_i hle
     obtain ⟨t,s⟩:=zkk N C (b::P) (by simp only [List.length_cons];omega) (List.pairwise_cons.1 h1).2 h2
     refine ⟨(Stb.refl [a]).append t,List.pairwise_cons.2 ⟨λz hz=>?_,s⟩⟩
     have hz:=(t.mem z).1 hz
     rcases List.mem_append.1 hz with hz | hz
     · exact ha z hz
     · rcases List.mem_cons.1 hz with rfl | hz
       · exact hle
       · have:=hb z hz;omega
   · rename_i hlt
     obtain ⟨t,s⟩:=zkk N (a::C) P (by simp only [List.length_cons];omega) h1 (List.pairwise_cons.1 h2).2
     refine ⟨?_,List.pairwise_cons.2 ⟨λz hz=>?_,s⟩⟩
     · have sw:Stb Pm.wt ((a::C)++[b]) ([b]++(a::C)):=Stb.swap λu hu v hv=>by
        rw [List.mem_singleton] at hv
        subst hv
        rcases List.mem_cons.1 hu with rfl | hu
        · omega
        · have:=ha u hu;omega
       have e:(a::C)++b::P=((a::C)++[b])++P:=by simp
       rw [e]
       refine (sw.append (Stb.refl P)).trans ?_
       rw [List.append_assoc]
       exact (Stb.refl [b]).append t
     · have hz:=(t.mem z).1 hz
       rcases List.mem_append.1 hz with hz | hz
       · rcases List.mem_cons.1 hz with rfl | hz
         · omega
         · have:=ha z hz;omega
       · exact hb z hz
theorem zon {C P:List Pm} (h1:Srt Pm.wt C) (h2:Srt Pm.wt P):mrg C P=isort (C++P):=
 zgi (zkk _ C P (Nat.le_refl _) h1 h2).1 (zkk _ C P (Nat.le_refl _) h1 h2).2
theorem zpt {C P:List Pm} (h1:Srt Pm.wt C) (h2:Srt Pm.wt P):(mrg C P).length=C.length+P.length:=by
 rw [zon h1 h2,z6Z,List.length_append]
theorem zfw:∀ (N:Nat) (C P:List Pm) (t:Nat),C.length+P.length<=N->t<=C.length+P.length->Srt Pm.wt C->Srt Pm.wt P ->
 ∃ c p,c+p=t/\c<=C.length/\p<=P.length/\((mrg C P).take t).Perm (C.take c++P.take p)/\(∀ x y,C[c]? = some x->p≠0->P[p-1]? = some y->y.wt<x.wt)
 | _,[],P,t,_,ht,_,_=>⟨0,t,by omega,Nat.le_refl _,by simpa using ht,by rw [zml];exact .refl _,λx y h=>by simp at h⟩
 | _,a::C,[],t,_,ht,_,_=>⟨t,0,by omega,by simpa using ht,Nat.le_refl _,by rw [zjU,List.take_zero,List.append_nil],λx y _ h=>absurd rfl h⟩
 | 0,a::C,b::P,t,h,_,_,_=>by simp at h
 | N+1,a::C,b::P,0,_,_,_,_=>⟨0,0,rfl,Nat.zero_le _,Nat.zero_le _,by simp,λx y _ h=>absurd rfl h⟩
 | N+1,a::C,b::P,t+1,h,ht,h1,h2=>by
   simp only [List.length_cons] at h ht
   have ha:=(List.pairwise_cons.1 h1).1
   have hb:=(List.pairwise_cons.1 h2).1
   rw [zjt]
   split
   · rename_i hle
     obtain ⟨c,p,e,hc,hp,hperm,htie⟩:=zfw N C (b::P) t (by simp only [List.length_cons];omega) (by simp only [List.length_cons];omega) (List.pairwise_cons.1 h1).2 h2
     refine ⟨c+1,p,by omega,by simp only [List.length_cons];omega,hp,?_,λx y hx hp0 hy=>htie x y (by simpa using hx) hp0 hy⟩
     rw [List.take_succ_cons,List.take_succ_cons,List.cons_append]
     exact hperm.cons a
   · rename_i hlt
     obtain ⟨c,p,e,hc,hp,hperm,htie⟩:=zfw N (a::C) P t (by simp only [List.length_cons];omega) (by simp only [List.length_cons];omega) h1 (List.pairwise_cons.1 h2).2
     refine ⟨c,p+1,by omega,hc,by simp only [List.length_cons];omega,?_,λx y hx _ hy=>?_⟩
     · rw [List.take_succ_cons,List.take_succ_cons]
       exact (hperm.cons b).trans List.perm_middle.symm
     · rw [Nat.add_sub_cancel] at hy
       by_cases hp0:p=0
       · subst hp0
         simp only [List.getElem?_cons_zero,Option.some.injEq] at hy
         subst hy
         have hx:=List.mem_of_getElem? hx
         rcases List.mem_cons.1 hx with rfl | hx
         · omega
         · have:=ha x hx;omega
       · obtain ⟨q,rfl⟩:∃ q,p=q+1:=⟨p-1,by omega⟩
         exact htie x y hx hp0 (by simpa using hy)
/-! ### Pairs of what is sorted are sorted -/
theorem zfV:∀ {l:List Pm} {i:Nat} {x:Pm},(pks l)[i]? = some x->∃ a b,l[2*i]? = some a/\l[2*i+1]? = some b/\x=.pair a b
 | [],i,x,h=>by simp [pks] at h
 | [_],i,x,h=>by simp [pks] at h
 | a::b::r,0,x,h=>by
   simp [pks] at h
   exact ⟨a,b,rfl,rfl,h.symm⟩
 | a::b::r,i+1,x,h=>by
   rw [pks,List.getElem?_cons_succ] at h
   obtain ⟨u,v,h1,h2,h3⟩:=zfV h
   refine ⟨u,v,?_,?_,h3⟩
   · rw [show 2*(i+1)=(2*i+1)+1 from by omega,List.getElem?_cons_succ,List.getElem?_cons_succ];exact h1
   · rw [show 2*(i+1)+1=((2*i+1)+1)+1 from by omega,List.getElem?_cons_succ,List.getElem?_cons_succ];exact h2
theorem zgn {l:List Pm} (h:Srt Pm.wt l) {i j:Nat} {x y:Pm} (hij:i<=j) (hx:l[i]? = some x) (hy:l[j]? = some y):x.wt<=y.wt:=by
 obtain ⟨h1,rfl⟩:=List.getElem?_eq_some_iff.1 hx
 obtain ⟨h2,rfl⟩:=List.getElem?_eq_some_iff.1 hy
 by_cases e:i=j
 · subst e;exact Int.le_refl _
 · exact (List.pairwise_iff_getElem.1 h) i j h1 h2 (by omega)
theorem zm5 {l:List Pm} (h:Srt Pm.wt l):Srt Pm.wt (pks l):=by
 unfold Srt
 rw [List.pairwise_iff_getElem]
 intro i j h1 h2 hij
 obtain ⟨a,b,e1,e2,e3⟩:=zfV (List.getElem?_eq_getElem h1)
 obtain ⟨a',b',e1',e2',e3'⟩:=zfV (List.getElem?_eq_getElem h2)
 rw [e3,e3']
 have:=zgn h (by omega) e1 e1'
 have:=zgn h (by omega) e2 e2'
 show a.wt+b.wt<=a'.wt+b'.wt
 omega
theorem zjW {C:List Pm} (h:Srt Pm.wt C):∀ k,Srt Pm.wt (rows C k)
 | 0=>h
 | _+1=>(z7D _).2
theorem zni {C:List Pm} (h:Srt Pm.wt C) (k:Nat):rows C (k+1)=mrg C (pks (rows C k)):=(zon h (zm5 (zjW h k))).symm
theorem zmd (f:Pm->Nat) (hf:∀ a b,f (.pair a b)=f a+f b):∀ {l:List Pm} {p:Nat},2*p<=l.length->((pks l |>.take p).map f).sum=((l.take (2*p)).map f).sum
 | _,0,_=>by simp
 | [],p+1,h=>by simp at h
 | [_],p+1,h=>by simp only [List.length_cons,List.length_nil] at h;omega
 | a::b::r,p+1,h=>by
   have ih:=zmd f hf (l:=r) (p:=p) (by simp only [List.length_cons] at h;omega)
   rw [pks,List.take_succ_cons,show 2*(p+1)=2*p+1+1 from by omega,List.take_succ_cons,List.take_succ_cons]
   simp only [List.map_cons,List.sum_cons,hf];omega
end Go.Vit
end
section
namespace Go.Vit
def vl:List Nat->Nat
 | []=>0
 | c::cs=>c*2^cs.length+vl cs
theorem zpW {m:Nat}:∀ {cs:List Nat},(∀ c∈cs,c<=m)->vl cs+m<=m*2^cs.length
 | [],_=>by simp [vl]
 | c::cs,h=>by
   have ih:=zpW (cs:=cs) λx hx=>h x (by simp [hx])
   have hc:=Nat.mul_le_mul_right (2^cs.length) (h c (by simp))
   rw [vl,List.length_cons,Nat.pow_succ,<- Nat.mul_assoc]
   generalize m*2^cs.length=z at *
   omega
theorem lev {C:List Pm} (h:Srt Pm.wt C) (h0:∀ x∈C,0<x.wt):∀ (k t:Nat),t<=(rows C k).length->∃ cs:List Nat,cs.length=k+1/\(∀ i,z8I i ((rows C k).take t)=(cs.map λc=>z8I i (C.take c)).sum)/\(∀ c∈cs,c<=C.length)/\cs.Pairwise (λa b=>b<=a)/\vl cs=t*2^k/\(∀ x∈C.take (cs.headD 0),x∈(rows C k).take t)
 | 0,t,ht=>⟨[t],rfl,λi=>by simp [rows],λc hc=>by rw [List.mem_singleton] at hc;subst hc;exact ht,List.pairwise_singleton _ _,by simp [vl],λx hx=>hx⟩
 | k+1,t,ht=>by
   have hs:=zjW h k
   have hP:=zm5 hs
   have hlen:=zpt h hP
   rw [zni h k] at ht ⊢
   rw [hlen] at ht
   obtain ⟨c,p,e,hc,hp,hperm,htie⟩:=zfw _ C (pks (rows C k)) t (Nat.le_refl _) ht h hP
   rw [za2] at hp
   have h2p:2*p<=(rows C k).length:=by omega
   obtain ⟨cs,l1,l2,l3,l4,l5,l6⟩:=lev h h0 k (2*p) h2p
   have hpos:∀ x∈rows C k,0<x.wt:=zfL (p:=λ_ x=>0<x.wt) (λx hx _=>h0 x hx) (λ_ a b ha hb=>by show 0<a.wt+b.wt;omega) k
   have hsum:∀ i,z8I i ((mrg C (pks (rows C k))).take t)=z8I i (C.take c)+z8I i ((rows C k).take (2*p)):=by
    intro i
    have e1:z8I i ((mrg C (pks (rows C k))).take t)=z8I i (C.take c++(pks (rows C k)).take p):=zjy _ hperm
    have e2:z8I i ((pks (rows C k)).take p)=z8I i ((rows C k).take (2*p)):=zmd (Pm.cnt i) (λa b=>rfl) h2p
    rw [e1,zdF,e2]
   have hmono:∀ c'∈cs,c'<=c:=by
    have hhead:cs.headD 0<=c:=by
     refine Nat.le_of_not_lt λhlt=>?_
     have hin:C.take (cs.headD 0)≠[]/\cs.headD 0<=C.length:=by
      cases cs with
      | nil=>simp at l1
      | cons a cs=>
        have ha:=l3 a (by simp)
        simp only [List.headD_cons] at hlt ⊢
        exact ⟨λhn=>by rw [List.take_eq_nil_iff] at hn;rcases hn with hn | hn;omega;subst hn;simp at ha;omega,ha⟩
     have hcl:c<C.length:=by omega
     have hmem:C[c]∈(rows C k).take (2*p):=l6 _ (by
      rw [List.mem_take_iff_getElem]
      exact ⟨c,by omega,rfl⟩)
     rw [List.mem_take_iff_getElem] at hmem
     obtain ⟨j,hj,ej⟩:=hmem
     have hp0:p≠0:=by omega
     have hpl:p-1<(pks (rows C k)).length:=by rw [za2];omega
     have htie:=htie _ _ (List.getElem?_eq_getElem hcl) hp0 (List.getElem?_eq_getElem hpl)
     obtain ⟨a,b,e1,e2,e3⟩:=zfV (List.getElem?_eq_getElem hpl)
     rw [e3] at htie
     have h1:C[c].wt<=b.wt:=by
      rw [<- ej]
      exact zgn hs (by omega) (List.getElem?_eq_getElem (by omega)) e2
     have ha:=hpos a (List.mem_of_getElem? e1)
     have:(Pm.pair a b).wt=a.wt+b.wt:=rfl
     omega
    cases cs with
    | nil=>intro c' hc';simp at hc'
    | cons a cs=>
      simp only [List.headD_cons] at hhead
      intro c' hc'
      rcases List.mem_cons.1 hc' with rfl | hc'
      · exact hhead
      · exact Nat.le_trans ((List.pairwise_cons.1 l4).1 c' hc') hhead
   refine ⟨c::cs,by rw [List.length_cons,l1],λi=>?_,λc' hc'=>?_,List.pairwise_cons.2 ⟨hmono,l4⟩,?_,λx hx=>?_⟩
   · rw [hsum,l2,List.map_cons,List.sum_cons]
   · rcases List.mem_cons.1 hc' with rfl | hc'
     · exact hc
     · exact l3 c' hc'
   · rw [vl,l1,l5,<- e,Nat.add_mul,Nat.pow_succ,Nat.mul_comm 2 p,Nat.mul_assoc p 2,Nat.mul_comm 2]
   · rw [List.headD_cons] at hx
     exact hperm.mem_iff.2 (List.mem_append.2 (.inl hx))
def pw (cs:List Nat) (q:Nat):Nat:=match cs with
 | []=>0
 | c::cs=>(if q<c then 2^cs.length else 0)+pw cs q
def ln (cs:List Nat) (q:Nat):Nat:=cs.countP λc=>decide (q<c)
theorem zia (c:Nat) (cs:List Nat) (q:Nat):ln (c::cs) q=ln cs q+if q<c then 1 else 0:=by
 unfold ln;rw [List.countP_cons];simp
theorem zpl (cs:List Nat) (q:Nat):ln cs q<=cs.length:=List.countP_le_length
theorem zq7 {q:Nat}:∀ {cs:List Nat},cs.Pairwise (λa b=>b<=a)->2^(cs.length-ln cs q)+pw cs q=2^cs.length
 | [],_=>by simp [pw,ln]
 | c::cs,h=>by
   have hp:=List.pairwise_cons.1 h
   have ih:=zq7 (q:=q) hp.2
   have hl:=zpl cs q
   rw [zia,pw,List.length_cons]
   by_cases hq:q<c
   · rw [if_pos hq,if_pos hq,show cs.length+1-(ln cs q+1)=cs.length-ln cs q from by omega,Nat.pow_succ]
     omega
   · rw [if_neg hq,if_neg hq]
     have h0:ln cs q=0:=by
      unfold ln
      rw [List.countP_eq_zero]
      intro a ha
      have:=hp.1 a ha
      simp;omega
     rw [h0] at ih ⊢
     simp only [Nat.sub_zero,Nat.add_zero,Nat.zero_add] at ih ⊢
     omega
theorem zg1 (f g:Nat->Nat):∀ n,msum (λq=>f q+g q) n=msum f n+msum g n
 | 0=>rfl
 | n+1=>by simp only [msum,zg1 f g n];omega
theorem zlw (a:Nat) {c:Nat}:∀ {n:Nat},msum (λq=>if q<c then a else 0) n=min c n*a
 | 0=>by simp [msum]
 | n+1=>by
   rw [msum,zlw (n:=n)]
   by_cases h:n<c
   · rw [if_pos h,show min c (n+1)=min c n+1 from by omega,Nat.add_mul,Nat.one_mul]
   · rw [if_neg h,show min c (n+1)=min c n from by omega,Nat.add_zero]
theorem zlX {n:Nat}:∀ {cs:List Nat},(∀ c∈cs,c<=n)->msum (pw cs) n=vl cs
 | [],_=>by
   have:∀ n,msum (pw []) n=0:=by
    intro n
    induction n with
    | zero=>rfl
    | succ n ih=>rw [msum,ih];rfl
   exact this n
 | c::cs,h=>by
   have ih:=zlX (cs:=cs) λx hx=>h x (by simp [hx])
   have:pw (c::cs)=λq=>(if q<c then 2^cs.length else 0)+pw cs q:=rfl
   rw [this,zg1,ih,zlw,Nat.min_eq_left (h c (by simp)),vl]
theorem zcc (a:Nat):∀ n,msum (λ_=>a) n=n*a
 | 0=>by simp [msum]
 | n+1=>by rw [msum,zcc a n,Nat.add_mul,Nat.one_mul]
theorem znW {n k:Nat} {cs:List Nat} (hn:1<=n) (hl:cs.length=k+1) (hp:cs.Pairwise λa b=>b<=a) (hc:∀ c∈cs,c<=n) (hv:vl cs=(2*n-2)*2^k):msum (λq=>2^(k+1-ln cs q)) n=2^(k+1):=by
 have h1:msum (λq=>2^(k+1-ln cs q)+pw cs q) n=n*2^(k+1):=by
  rw [<- zcc]
  congr 1
  funext q
  rw [<- hl]
  exact zq7 hp
 have e:2*2^k=2^(k+1):=by rw [Nat.pow_succ,Nat.mul_comm]
 rw [zg1,zlX hc,hv,show 2*n-2=(n-1)*2 from by omega,Nat.mul_assoc,e] at h1
 obtain ⟨m,rfl⟩:∃ m,n=m+1:=⟨n-1,by omega⟩
 rw [Nat.add_sub_cancel,Nat.add_mul,Nat.one_mul] at h1
 omega
theorem zpd {n k:Nat} {cs:List Nat} (hn:2<=n) (hl:cs.length=k+1) (hp:cs.Pairwise λa b=>b<=a) (hc:∀ c∈cs,c<=n) (hv:vl cs=(2*n-2)*2^k) {q:Nat} (hq:q<n):1<=ln cs q:=by
 cases cs with
 | nil=>simp at hl
 | cons c cs=>
   have hp':=List.pairwise_cons.1 hp
   have h1:∀ x∈c::cs,x<=c:=by
    intro x hx
    rcases List.mem_cons.1 hx with rfl | hx
    · exact Nat.le_refl _
    · exact hp'.1 x hx
   have h2:=zpW h1
   rw [hv,hl,Nat.pow_succ,Nat.mul_comm (2^k) 2,<- Nat.mul_assoc] at h2
   have hk:=Nat.pow_pos (n:=k) (show 0<2 by decide)
   have:n<=c:=by
    refine Nat.le_of_not_lt λhlt=>?_
    have:c*2*2^k<=(2*n-2)*2^k:=Nat.mul_le_mul_right _ (by omega)
    have hc0:c=0:=by omega
    subst hc0
    have:1*2^k<=(2*n-2)*2^k:=Nat.mul_le_mul_right _ (by omega)
    omega
   rw [zia,if_pos (by omega)];omega
end Go.Vit
end
section
namespace Go.Vit
def Pm.sym:Pm->Nat
 | .coin _ s=>s
 | .pair _ _=>0
def Pm.isC (L:List Int):Pm->Prop
 | .coin n s=>s<L.length/\n=L.getD s 0/\0<n
 | .pair _ _=>False
theorem zif {L:List Int} {x:Pm} (h:x.isC L) (i:Nat):x.cnt i=if x.sym=i then 1 else 0:=by
 cases x with
 | coin n s=>rfl
 | pair a b=>exact h.elim
theorem zdr {L:List Int} {i:Nat}:∀ {l:List Pm},(∀ x∈l,x.isC L/\x.sym≠i)->z8I i l=0
 | [],_=>rfl
 | x::l,h=>by
   have hx:=h x (by simp)
   have ih:=zdr (l:=l) λy hy=>h y (by simp [hy])
   unfold z8I at ih ⊢
   rw [List.map_cons,List.sum_cons,ih,zif hx.1,if_neg hx.2]
theorem zhT {L:List Int}:∀ {l:List Pm} {q c:Nat} {x:Pm},(∀ x∈l,x.isC L)->(l.map Pm.sym).Nodup->l[q]? = some x->z8I x.sym (l.take c)=if q<c then 1 else 0
 | [],q,c,x,_,_,h=>by simp at h
 | y::l,q,0,x,_,_,_=>by simp [z8I]
 | y::l,0,c+1,x,hc,hn,h=>by
   simp only [List.getElem?_cons_zero,Option.some.injEq] at h
   subst h
   rw [List.map_cons,List.nodup_cons] at hn
   have h0:z8I y.sym (l.take c)=0:=zdr λz hz=>⟨hc z (by simp [List.mem_of_mem_take hz]),λe=>hn.1 (by rw [<- e];exact List.mem_map_of_mem (List.mem_of_mem_take hz))⟩
   unfold z8I at h0 ⊢
   rw [List.take_succ_cons,List.map_cons,List.sum_cons,h0,zif (hc y (by simp)),if_pos rfl,if_pos (by omega)]
 | y::l,q+1,c+1,x,hc,hn,h=>by
   rw [List.getElem?_cons_succ] at h
   rw [List.map_cons,List.nodup_cons] at hn
   have ih:=zhT (c:=c) (λz hz=>hc z (by simp [hz])) hn.2 h
   have hy:y.sym≠x.sym:=λe=>hn.1 (by rw [e];exact List.mem_map_of_mem (List.mem_of_getElem? h))
   unfold z8I at ih ⊢
   rw [List.take_succ_cons,List.map_cons,List.sum_cons,ih,zif (hc y (by simp)),if_neg hy,Nat.zero_add]
   by_cases e:q<c
   · rw [if_pos e,if_pos (by omega)]
   · rw [if_neg e,if_neg (by omega)]
theorem zih {L:List Int} {i:Nat} (hi:i<=L.length):∀ x∈zX L i,x.isC L:=by
 intro x hx
 obtain ⟨j,h1,h2,rfl⟩:=z4s hx
 exact ⟨by omega,rfl,h2⟩
theorem zj7 (L:List Int) (i:Nat):(zX L i).map Pm.sym=(List.range i).filter λj=>decide (0<L.getD j 0):=by
 unfold zX
 rw [List.map_map]
 exact List.map_id _
theorem zgA (L:List Int) (i:Nat):((zX L i).map Pm.sym).Nodup:=by
 rw [zj7]
 exact List.nodup_range.filter _
def zd8 (L:List Int):List Pm:=isort (zk L)
theorem zd7 (L:List Int):∀ x∈zd8 L,x.isC L:=λx hx=>zih (Nat.le_refl _) x (zaM.1 hx)
theorem zl1 (L:List Int):((zd8 L).map Pm.sym).Nodup:=((zeY _).map _).nodup_iff.2 (zgA L L.length)
theorem z7x (L:List Int):(zd8 L).length=(zk L).length:=z6Z _
theorem znT (L:List Int):∀ x∈zd8 L,0<x.wt:=by
 intro x hx
 have h:=zd7 L x hx
 cases x with
 | coin n s=>exact h.2.2
 | pair a b=>exact h.elim
theorem ziz {L:List Int} {i:Nat} (hi:i<L.length) (h:0<L.getD i 0):∃ q,∃ _:q<(zd8 L).length,(zd8 L)[q]=.coin (L.getD i 0) i:=by
 have:Pm.coin (L.getD i 0) i∈zd8 L:=by
  unfold zd8
  rw [zaM]
  unfold zk zX
  rw [List.mem_map]
  exact ⟨i,by rw [List.mem_filter,List.mem_range];exact ⟨hi,by simpa using h⟩,rfl⟩
 obtain ⟨q,hq,e⟩:=List.getElem_of_mem this
 exact ⟨q,hq,e⟩
theorem zd6 (f:Nat->Int) (n i:Nat):(arr f n).getD i 0=if i<n then f i else 0:=by
 by_cases h:i<n
 · rw [if_pos h,zA (by rw [zW];exact h)];simp [arr]
 · rw [if_neg h,List.getD_eq_getElem?_getD,List.getElem?_eq_none (by rw [zW];omega)];rfl
structure Lim (most:Nat) (L:List Int) (l:List Int) (cs:List Nat):Prop where
 len:cs.length=most
 dec:cs.Pairwise λa b=>b<=a
 le:∀ c∈cs,c<=(zk L).length
 at':∀ q (h:q<(zd8 L).length),l.getD ((zd8 L)[q]).sym 0=ln cs q
 no:∀ i,¬ 0<L.getD i 0->l.getD i 0=0
 sum:msum (λq=>2^(most-ln cs q)) (zk L).length=2^most
 pos:∀ q<(zk L).length,1<=ln cs q
theorem zoq (q:Nat):∀ cs:List Nat,(cs.map λc=>if q<c then 1 else 0).sum=ln cs q
 | []=>rfl
 | c::cs=>by rw [List.map_cons,List.sum_cons,zia,zoq q cs,Nat.add_comm]
theorem zk3:∀ cs:List Nat,(cs.map λ_=>0).sum=0
 | []=>rfl
 | c::cs=>by rw [List.map_cons,List.sum_cons,zk3 cs]
theorem zhO {most:Nat} {L:List Int} (h1:1<=most) (hn:2<=(zk L).length) (h2:(zk L).length<=2^most):∃ cs,Lim most L (limit most L) cs:=by
 obtain ⟨n,hne⟩:∃ n,(zk L).length=n:=⟨_,rfl⟩
 have hs:Srt Pm.wt (zd8 L):=(z7D _).2
 have hlen:=zg7 (zd8 L) (most-1) 2 (by
  obtain ⟨m,rfl⟩:∃ m,most=m+1:=⟨most-1,by omega⟩
  rw [Nat.add_sub_cancel,z7x,Nat.mul_comm,<- Nat.pow_succ];exact h2)
 rw [z7x] at hlen
 obtain ⟨cs,l1,l2,l3,l4,l5,_⟩:=lev hs (znT L) (most-1) (2*n-2) (by omega)
 rw [z7x] at l3
 rw [hne] at l3
 have hl:limit most L=arr (λi=>z8I i ((rows (zd8 L) (most-1)).take (2*n-2))) L.length:=by
  unfold limit
  rw [if_neg (by omega),hne];rfl
 have hat:∀ q (h:q<(zd8 L).length),z8I ((zd8 L)[q]).sym ((rows (zd8 L) (most-1)).take (2*n-2))=ln cs q:=by
  intro q hq
  rw [l2,List.map_congr_left (λc _=>zhT (c:=c) (zd7 L) (zl1 L) (List.getElem?_eq_getElem hq))]
  exact zoq q cs
 refine ⟨cs,by omega,l4,by rw [hne];exact l3,λq h=>?_,λi h=>?_,?_,λq hq=>zpd (by omega) l1 l4 l3 l5 (by omega)⟩
 · rw [hl,zd6,hat q h,if_pos]
   have:=zd7 L _ (List.getElem_mem h)
   cases e:(zd8 L)[q] with
   | coin w s=>rw [e] at this;exact this.1
   | pair a b=>rw [e] at this;exact this.elim
 · rw [hl,zd6]
   split
   · rw [l2]
     have hz:∀ c,z8I i ((zd8 L).take c)=0:=λc=>zdr λx hx=>by
      have hx:=zd7 L x (List.mem_of_mem_take hx)
      refine ⟨hx,λe=>?_⟩
      cases x with
      | coin w s=>have:=hx.2;simp only [Pm.sym] at e;subst e;omega
      | pair a b=>exact hx.elim
     have:(cs.map λc=>z8I i ((zd8 L).take c)).sum=0:=by
      rw [List.map_congr_left (λc _=>hz c)]
      exact zk3 cs
     rw [this];rfl
   · rfl
 · have:=znW (n:=n) (k:=most-1) (by omega) l1 l4 l3 l5
   rw [show most-1+1=most from by omega] at this
   rw [hne];exact this
/-! ### The room that codes take -/
theorem zd5 (f:Nat->Int):∀ m,room (arr f m)=msum (λi=>if 0<f i then 2^(15-f i).toNat else 0) m
 | 0=>rfl
 | m+1=>by
   have ih:=zd5 f m
   have e:arr f (m+1)=arr f m++[f m]:=by unfold arr;rw [List.range_succ,List.map_append];rfl
   rw [e,msum,<- ih]
   unfold room
   rw [List.map_append,List.sum_append];simp
theorem zmJ (l:List Int):room l=msum (λi=>if 0<l.getD i 0 then 2^(15-l.getD i 0).toNat else 0) l.length:=by
 have:l=arr (λi=>l.getD i 0) l.length:=by
  refine List.ext_getElem (by rw [zW]) λi h1 h2=>?_
  simp [arr,List.getElem?_eq_getElem h1]
 have e:=zd5 (λi=>l.getD i 0) l.length
 rw [<- this] at e
 exact e
theorem zeU (G:Nat->Nat) (L:List Int):∀ m,msum (λi=>if 0<L.getD i 0 then G i else 0) m=((zX L m).map λx=>G x.sym).sum
 | 0=>rfl
 | m+1=>by
   rw [msum,zeU G L m,zcD,List.map_append,List.sum_append]
   by_cases h:0<L.getD m 0
   · rw [if_pos h,if_pos h];simp [Pm.sym]
   · rw [if_neg h,if_neg h];simp
theorem znE (F:Pm->Nat):∀ l:List Pm,(l.map F).sum=msum (λq=>F (l.getD q (.coin 0 0))) l.length:=by
 intro l
 have:∀ (l:List Pm) (m:Nat),m<=l.length->((l.take m).map F).sum=msum (λq=>F (l.getD q (.coin 0 0))) m:=by
  intro l m
  induction m with
  | zero=>intro _;simp [msum]
  | succ m ih=>
    intro h
    have hm:m<l.length:=by omega
    rw [msum,<- ih (by omega),List.take_succ_eq_append_getElem hm,List.map_append,List.sum_append]
    simp [List.getD,List.getElem?_eq_getElem hm]
 have:=this l l.length (Nat.le_refl _)
 rw [List.take_length] at this
 exact this
theorem z4u {f g:Nat->Nat}:∀ {n:Nat},(∀ q<n,f q=g q)->msum f n=msum g n
 | 0,_=>rfl
 | n+1,h=>by rw [msum,msum,z4u (n:=n) λq hq=>h q (by omega),h n (by omega)]
theorem zje (a:Nat) (f:Nat->Nat):∀ n,msum (λq=>a*f q) n=a*msum f n
 | 0=>by simp [msum]
 | n+1=>by rw [msum,msum,zje a f n,Nat.mul_add]
theorem zob {most:Nat} {L l:List Int} {cs:List Nat} (h:Lim most L l cs) (hl:l.length=L.length) (hm:most<=15):room l=32768:=by
 have hpos:∀ i,i<L.length->(0<l.getD i 0↔0<L.getD i 0):=by
  intro i hi
  constructor
  · intro h0
    refine Decidable.byContradiction λhn=>?_
    have:=h.no i hn;omega
  · intro h0
    obtain ⟨q,hq,e⟩:=ziz hi h0
    have h1:=h.at' q hq
    rw [e] at h1
    have h2:=h.pos q (by rw [<- z7x];exact hq)
    simp only [Pm.sym] at h1
    omega
 rw [zmJ,hl,z4u (g:=λi=>if 0<L.getD i 0 then 2^(15-l.getD i 0).toNat else 0) λi hi=>by
  by_cases h0:0<L.getD i 0
  · rw [if_pos h0,if_pos ((hpos i hi).2 h0)]
  · rw [if_neg h0,if_neg λh=>h0 ((hpos i hi).1 h)],zeU (λi=>2^(15-l.getD i 0).toNat) L L.length]
 have e1:((zX L L.length).map λx=>2^(15-l.getD x.sym 0).toNat).sum=((zd8 L).map λx=>2^(15-l.getD x.sym 0).toNat).sum:=zjy _ (zeY _).symm
 rw [e1,znE,z7x,z4u (g:=λq=>2^(15-most)*2^(most-ln cs q)) λq hq=>?_,zje,h.sum,<- Nat.pow_add,show 15-most+most=15 from by omega]
 have hq':q<(zd8 L).length:=by rw [z7x];exact hq
 have e2:(zd8 L).getD q (.coin 0 0)=(zd8 L)[q]:=by simp [List.getD,List.getElem?_eq_getElem hq']
 have e3:=h.at' q hq'
 have e4:=zpl cs q
 rw [h.len] at e4
 rw [e2,e3,<- Nat.pow_add]
 congr 1
 omega
end Go.Vit
end
section
namespace Go.Vit
/-! ### A greater row is lighter, thing by thing -/
/-! ### What a list of things weighs -/
end Go.Vit
end
section
namespace Go.Vit
theorem zhB (most:Nat) (L:List Int):(limit most L).length=L.length:=by unfold limit;split<;>exact zW _ _
theorem zhQ {L:List Int} (h:(zk L).length=1):∃ j,j<L.length/\0<L.getD j 0/\zk L=[.coin (L.getD j 0) j]/\(∀ i<L.length,0<L.getD i 0->i=j):=by
 obtain ⟨t,ht⟩:=List.length_eq_one_iff.1 h
 obtain ⟨j,hj,h0,hjt⟩:=z4s (L:=L) (i:=L.length) (x:=t) (by rw [show zX L L.length=zk L from rfl,ht];simp)
 refine ⟨j,hj,h0,by rw [ht,hjt],λi hi h0'=>?_⟩
 have:Pm.coin (L.getD i 0) i∈zk L:=by
  unfold zk zX
  rw [List.mem_map]
  exact ⟨i,by rw [List.mem_filter,List.mem_range];exact ⟨hi,by simpa using h0'⟩,rfl⟩
 rw [ht,hjt,List.mem_singleton] at this
 injection this
theorem zkp {L:List Int} (h:(zk L).length=0):∀ i<L.length,¬ 0<L.getD i 0:=by
 intro i hi h0
 have:Pm.coin (L.getD i 0) i∈zk L:=by
  unfold zk zX
  rw [List.mem_map]
  exact ⟨i,by rw [List.mem_filter,List.mem_range];exact ⟨hi,by simpa using h0⟩,rfl⟩
 rw [List.length_eq_zero_iff.1 h] at this
 simp at this
theorem zhx {most:Nat} {L:List Int} {j:Nat} (h:zk L=[.coin (L.getD j 0) j]):limit most L=arr (λi=>if j=i then 1 else 0) L.length:=by
 unfold limit
 rw [if_pos (by rw [h];rfl),h]
 refine z0e λi _=>?_
 rw [zkb]
 show (((if j=i then 1 else 0:Nat)):Int)=_
 split<;>rfl
theorem zf7 {most:Nat} {L:List Int} (h:(zk L).length=0):limit most L=arr (λ_=>0) L.length:=by
 unfold limit
 rw [if_neg (by omega),h]
 exact z0e λi _=>by rw [List.take_zero];rfl
theorem zn3 {most:Nat} {L:List Int} (h1:1<=most) (h2:(zk L).length<=2^most) {i:Nat} (hi:i<L.length) :
 (0<(limit most L).getD i 0↔0<L.getD i 0)/\0<=(limit most L).getD i 0/\(limit most L).getD i 0<=most/\∀ k<L.length,L.getD k 0<L.getD i 0->0<L.getD k 0->(limit most L).getD i 0<=(limit most L).getD k 0:=by
 by_cases hn:2<=(zk L).length
 · obtain ⟨cs,lim⟩:=zhO h1 hn h2
   have hs:Srt Pm.wt (zd8 L):=(z7D _).2
   by_cases h0:0<L.getD i 0
   · obtain ⟨q,hq,e⟩:=ziz hi h0
     have e1:=lim.at' q hq
     rw [e] at e1
     simp only [Pm.sym] at e1
     have e2:=lim.pos q (by rw [<- z7x];exact hq)
     have e3:=zpl cs q
     rw [lim.len] at e3
     refine ⟨⟨λ_=>h0,λ_=>by omega⟩,by omega,by omega,λk hk hlt hk0=>?_⟩
     obtain ⟨q',hq',e'⟩:=ziz hk hk0
     have e1':=lim.at' q' hq'
     rw [e'] at e1'
     simp only [Pm.sym] at e1'
     have hqq:q'<=q:=by
      refine Nat.le_of_not_lt λhlt'=>?_
      have:=zgn hs (Nat.le_of_lt hlt') (List.getElem?_eq_getElem hq) (List.getElem?_eq_getElem hq')
      rw [e,e'] at this
      simp only [Pm.wt] at this
      omega
     have:ln cs q<=ln cs q':=by
      unfold ln
      refine List.countP_mono_left λc _ hc=>?_
      simp at hc ⊢;omega
     omega
   · have:=lim.no i h0
     exact ⟨⟨λh=>by omega,λh=>absurd h h0⟩,by omega,by omega,λk hk hlt hk0=>by omega⟩
 · by_cases hn1:(zk L).length=1
   · obtain ⟨j,hj,h0,hc,hu⟩:=zhQ hn1
     rw [zhx hc,zd6,if_pos hi]
     by_cases e:j=i
     · subst e
       rw [if_pos rfl]
       exact ⟨⟨λ_=>h0,λ_=>by omega⟩,by omega,by omega,λk hk hlt hk0=>by have:=hu k hk hk0;subst this;omega⟩
     · rw [if_neg e]
       have:¬ 0<L.getD i 0:=λh=>e (hu i hi h).symm
       exact ⟨⟨λh=>by omega,λh=>absurd h this⟩,by omega,by omega,λk hk hlt hk0=>by omega⟩
   · have h0:(zk L).length=0:=by omega
     have:=zkp h0 i hi
     rw [zf7 h0,zd6,if_pos hi]
     exact ⟨⟨λh=>by omega,λh=>absurd h this⟩,by omega,by omega,λk hk hlt hk0=>by omega⟩
theorem zfG (f:Nat->Int):∀ m,many (arr f m)=msum (λi=>if 0<f i then 1 else 0) m
 | 0=>rfl
 | m+1=>by
   have ih:=zfG f m
   have e:arr f (m+1)=arr f m++[f m]:=by unfold arr;rw [List.range_succ,List.map_append];rfl
   rw [e,msum,<- ih]
   unfold many
   rw [List.countP_append,List.countP_singleton];simp
theorem zoD (f:Nat->Int) (n:Nat):∀ m,cN (arr f m) n=msum (λi=>if 0<f i/\f i=n then 1 else 0) m
 | 0=>rfl
 | m+1=>by
   have ih:=zoD f n m
   have e:arr f (m+1)=arr f m++[f m]:=by unfold arr;rw [List.range_succ,List.map_append];rfl
   rw [e,zdL,msum,<- ih]
   unfold cN
   rw [List.countP_singleton];simp
theorem zfX (a:Nat) (j:Nat):∀ m,msum (λi=>if j=i then a else 0) m=if j<m then a else 0
 | 0=>by simp [msum]
 | m+1=>by
   rw [msum,zfX a j m]
   by_cases h:j<m
   · rw [if_pos h,if_neg (by omega),if_pos (by omega)];omega
   · rw [if_neg h]
     by_cases h':j=m
     · rw [if_pos h',if_pos (by omega)];omega
     · rw [if_neg h',if_neg (by omega)]
theorem zdR {most:Nat} {L:List Int} (h1:1<=most) (h15:most<=15) (hl:L.length<=288) (h2:(zk L).length<=2^most):chk (limit most L)=0:=by
 have hlen:=zhB most L
 have hlens:lens (limit most L):=by
  refine ⟨by omega,λx hx=>?_⟩
  obtain ⟨i,hi,rfl⟩:=List.getElem_of_mem hx
  have:=zn3 h1 h2 (i:=i) (by omega)
  rw [zA hi] at this
  omega
 unfold chk
 rw [if_neg (not_not_intro hlens)]
 by_cases hn:2<=(zk L).length
 · obtain ⟨cs,lim⟩:=zhO h1 hn h2
   have hr:=zob lim hlen h15
   rw [hr,if_neg (by omega),if_neg (by omega)]
 · by_cases hn1:(zk L).length=1
   · obtain ⟨j,hj,h0,hc,hu⟩:=zhQ hn1
     rw [zhx hc,zd5,zfG,zoD,z4u (g:=λi=>if j=i then 16384 else 0) λi _=>by by_cases e:j=i<;>simp [e],z4u (f:=λi=>if 0<(if j=i then (1:Int) else 0) then 1 else 0) (g:=λi=>if j=i then 1 else 0) λi _=>by by_cases e:j=i<;>simp [e],z4u (f:=λi=>if 0<(if j=i then (1:Int) else 0)/\(if j=i then (1:Int) else 0)=(1:Nat) then 1 else 0) (g:=λi=>if j=i then 1 else 0) λi _=>by by_cases e:j=i<;>simp [e],zfX,zfX,if_pos hj,if_pos hj]
     decide
   · have h0:(zk L).length=0:=by omega
     rw [zf7 h0,zd5,zfG]
     have z:∀ m a,msum (λ_=>if (0:Int)<0 then a else 0) m=0:=by
      intro m a
      rw [z4u (g:=λ_=>0) λi _=>if_neg (by omega),zcc];omega
     rw [z,z]
     rw [if_neg (by omega),if_neg (by omega)]
end Go.Vit
end
section
namespace Go.Vit
theorem RdO.rd {σ σ':Mem} {v:AV} {L:List Int} (h:RdO 1 σ v (ic L) L.length) (hb:∀ b∈z3 v,σ'.get b=σ.get b) {i:Nat} (hi:i<L.length) {x:Int} (hx:x=(i:Nat)) {K:Int->Prop} (hk:K (L.getD i 0)):zz 1 v x λp=>ldI σ' p K:=by
 obtain ⟨b,z,c,rfl,hg⟩:=(h.keep hb).at hi
 subst hx
 refine And.intro (show (0:Int)<=(i:Nat)/\((i:Nat):Int)<(L.length:Nat) by omega) ?_
 rw [Int.toNat_natCast,Nat.mul_one]
 rw [zA hi] at hk
 exact hg (K:=λa=>zq .i64 a K) 0 hk
theorem z3v {l:List AV} {i:Nat} {x:Int} {K:Int->Prop} (h:l[i]? = some (.int .i64 x)) (hk:K x):tpI (.tup l) i K:=by
 show z4t l[i]? _
 rw [h]
 exact hk
theorem z43 {l:List AV} {i:Nat} {x:AV} {K:AV->Prop} (h:l[i]? = some x) (hk:K x):z6T (.tup l) i K:=by
 show z4t l[i]? _
 rw [h]
 exact hk
end Go.Vit
end
section
namespace Go.Vit
def RdX (σ:Mem) (v:AV) (L:List Int):Prop:=∃ b,v=.slice b 0 L.length (.ex L.length)/\σ.get b=some (.rw (ic L))
def zqx (c:Cap) (n:Nat):Prop:=c=.op 1\/∃ k,n<=k/\c=.ex k
def RdC (σ:Mem) (v:AV) (L:List Int):Prop:=(v=.nils/\L=[])\/∃ b c M,v=.slice b 0 L.length c/\zqx c L.length/\σ.get b=some (.rw (ic M))/\L.length<=M.length/\M.take L.length=L
theorem RdX.c {σ:Mem} {v:AV} {L:List Int} (h:RdX σ v L):RdC σ v L:=by
 obtain ⟨b,h1,h2⟩:=h
 exact .inr ⟨b,_,L,h1,.inr ⟨_,Nat.le_refl _,rfl⟩,h2,Nat.le_refl _,List.take_length⟩
theorem RdX.s {σ:Mem} {v:AV} {L:List Int} (h:RdX σ v L):RdS 1 σ v (ic L) L.length:=by
 obtain ⟨b,h1,h2⟩:=h
 exact .inr ⟨b,_,h1,⟨_,h2,rfl⟩,by rw [z0j,Nat.mul_one]⟩
theorem z1Q.c {σ:Mem} {v:AV} {L:List Int} {n:Nat} (h:z1Q 1 σ v (ic L) n):RdC σ v L:=by
 rcases h with ⟨h1,h2,h3⟩ | ⟨b,h1,h2,h3⟩
 · refine .inl ⟨h1,?_⟩
   cases L with
   | nil=>rfl
   | cons a L=>simp [ic] at h3
 · rw [z0j,Nat.mul_one] at h3
   subst h3
   exact .inr ⟨b,_,L,h1,.inl rfl,h2,Nat.le_refl _,List.take_length⟩
theorem RdC.o {σ:Mem} {v:AV} {L:List Int} (h:RdC σ v L):RdO 1 σ v (ic L) L.length:=by
 rcases h with ⟨h1,h2⟩ | ⟨b,c,M,h1,_,h2,h3,h4⟩
 · subst h2;exact .inl ⟨h1,rfl,rfl⟩
 · refine .inr ⟨b,0,c,h1,by rw [z0j,Nat.mul_one],_,ic M,h2,rfl,?_,by rw [z0j];omega⟩
   rw [List.drop_zero,Nat.mul_one]
   unfold ic
   rw [<- List.map_take,h4]
theorem RdC.keep {σ σ':Mem} {v:AV} {L:List Int} (h:RdC σ v L) (hb:∀ b∈z3 v,σ'.get b=σ.get b):RdC σ' v L:=by
 rcases h with h | ⟨b,c,M,rfl,h1,h2,h3⟩
 · exact .inl h
 · exact .inr ⟨b,c,M,rfl,h1,(hb b (by simp [z3])).trans h2,h3⟩
theorem RdX.keep {σ σ':Mem} {v:AV} {L:List Int} (h:RdX σ v L) (hb:∀ b∈z3 v,σ'.get b=σ.get b):RdX σ' v L:=by
 obtain ⟨b,rfl,h2⟩:=h
 exact ⟨b,rfl,(hb b (by simp [z3])).trans h2⟩
theorem RdC.one {σ:Mem} {v:AV} {L:List Int} (h:RdC σ v L):v.one=true:=by
 rcases h with ⟨rfl,_⟩ | ⟨b,c,M,rfl,_⟩<;>rfl
theorem RdC.cut {σ:Mem} {v:AV} {L:List Int} {m:Nat} {x:Int} (h:RdC σ v L) (hm:m<=L.length) (hx:x=(m:Nat)) {K:AV->Prop} (hk:∀ w,RdC σ w (L.take m)->z3 w=z3 v->K w):zcJ 1 v none (some x) K:=by
 subst hx
 rcases h with ⟨rfl,rfl⟩ | ⟨b,c,M,rfl,hc,hg,h3,h4⟩
 · obtain rfl:m=0:=by simpa using hm
   refine And.intro (show (0:Int)<=0/\(0:Int)<=((0:Nat):Int)/\((0:Nat):Int)<=((0:Nat):Int) by decide) ?_
   exact hk _ (.inl ⟨rfl,rfl⟩) rfl
 · have hle:L.length<=c.least L.length:=by
    rcases hc with rfl | ⟨k,hk',rfl⟩
    · exact Nat.le_refl _
    · exact hk'
   refine And.intro ⟨by rcases hc with rfl | ⟨k,_,rfl⟩<;>rfl,Int.le_refl _,show (0:Int)<=((m:Nat):Int) by omega,show ((m:Nat):Int)<=((c.least L.length:Nat):Int) by omega⟩ ?_
   show K (.slice b (0+(0:Int).toNat*1) (((m:Nat):Int).toNat-(0:Int).toNat) (c.cut false (0:Int).toNat (c.least L.length)))
   rw [Int.toNat_natCast,Int.toNat_zero,Nat.zero_mul,Nat.sub_zero]
   refine hk _ (.inr ⟨b,_,M,by rw [List.length_take,Nat.min_eq_left hm],?_,hg,by rw [List.length_take];omega,?_⟩) rfl
   · rw [List.length_take]
     rcases hc with rfl | ⟨k,hk',rfl⟩
     · exact .inl rfl
     · exact .inr ⟨k,by omega,rfl⟩
   · rw [List.length_take,<- h4,List.take_take]
     congr 1
     rw [h4,Nat.min_eq_left hm]
def told (least:Nat) (L:List Int):Nat->List Int
 | 0=>L.take 0
 | n+1=>if least<n+1/\L.getD n 0=0 then told least L n else L.take (n+1)
def tld (least:Nat) (L:List Int):List Int:=told least L L.length
end Go.Vit
end
section
namespace Go.Vit
def zk5 (A:List Int) (i:Nat):List Int:=A.set i (A.getD i 0+1)
theorem zfY (A:List Int) (i:Nat):(zk5 A i).length=A.length:=by unfold zk5;rw [List.length_set]
def bdL (A:List Int) (m:Int):Prop:=∀ x∈A,0<=x/\x<=m
theorem bdL.get {A:List Int} {m:Int} (h:bdL A m) (hm:0<=m) (i:Nat):0<=A.getD i 0/\A.getD i 0<=m:=by
 by_cases hi:i<A.length
 · rw [zA hi];exact h _ (List.getElem_mem hi)
 · rw [List.getD_eq_getElem?_getD,List.getElem?_eq_none (by omega)]
   exact ⟨Int.le_refl _,hm⟩
theorem bdL.add {A:List Int} {m:Int} (h:bdL A m) (hm:0<=m) (i:Nat):bdL (zk5 A i) (m+1):=by
 intro x hx
 unfold zk5 at hx
 rcases List.mem_or_eq_of_mem_set hx with hx | rfl
 · have:=h x hx;omega
 · have:=h.get hm i;omega
theorem bdL.mono {A:List Int} {m n:Int} (h:bdL A m) (hmn:m<=n):bdL A n:=λx hx=>⟨(h x hx).1,Int.le_trans (h x hx).2 hmn⟩
theorem zfr {most:Nat} {A:List Int} {m:Int} (h1:1<=most) (h2:most<=15) (h3:A.length<=288) (h4:bdL A m) (h5:m<=1000000000) (h6:A.length<=2^most):¬ zi4 (most:Nat) A:=by
 rintro (h | h | h | ⟨x,hx,h⟩ | h)
 · omega
 · omega
 · omega
 · have:=h4 x hx;omega
 · have:=zai A A.length
   rw [Int.toNat_natCast] at h
   have:(zk A).length<=A.length:=this
   omega
theorem zfF (A:List Int):(zk A).length<=A.length:=zai A A.length
/-! ### Lists without the last zeros -/
theorem zeW {least:Nat} {L:List Int}:∀ {n:Nat},n<=L.length->∃ m,m<=n/\told least L n=L.take m/\(min least n<=m)/\L.take n=L.take m++List.replicate (n-m) 0
 | 0,_=>⟨0,Nat.le_refl _,rfl,by omega,by simp⟩
 | n+1,h=>by
   unfold told
   by_cases hc:least<n+1/\L.getD n 0=0
   · rw [if_pos hc]
     obtain ⟨m,h1,h2,h3,h4⟩:=zeW (least:=least) (L:=L) (n:=n) (by omega)
     refine ⟨m,by omega,h2,by omega,?_⟩
     have hnL:n<L.length:=by omega
     have e:L[n]=0:=by rw [<- zA hnL];exact hc.2
     rw [List.take_succ_eq_append_getElem hnL,h4,List.append_assoc]
     congr 1
     rw [e,show n+1-m=(n-m)+1 from by omega,List.replicate_succ']
   · rw [if_neg hc]
     exact ⟨n+1,Nat.le_refl _,rfl,by omega,by simp⟩
theorem zay (least:Nat) (L:List Int):∃ k,L=tld least L++List.replicate k 0/\min least L.length<=(tld least L).length:=by
 obtain ⟨m,h1,h2,h3,h4⟩:=zeW (least:=least) (L:=L) (n:=L.length) (Nat.le_refl _)
 rw [List.take_length] at h4
 refine ⟨L.length-m,?_,?_⟩
 · show L=told least L L.length++_
   rw [h2];exact h4
 · show _<=(told least L L.length).length
   rw [h2,List.length_take];omega
theorem zib (L M:List Int):room (L++M)=room L+room M:=by unfold room;rw [List.map_append,List.sum_append]
theorem zf1:∀ k,room (List.replicate k 0)=0
 | 0=>rfl
 | k+1=>by
   have ih:=zf1 k
   unfold room at ih ⊢
   rw [List.replicate_succ,List.map_cons,List.sum_cons,ih];rfl
theorem zeV:∀ k,many (List.replicate k 0)=0
 | 0=>rfl
 | k+1=>by
   have ih:=zeV k
   unfold many at ih ⊢
   rw [List.replicate_succ,List.countP_cons,ih];rfl
theorem zjP (n:Nat):∀ k,cN (List.replicate k 0) n=0
 | 0=>rfl
 | k+1=>by
   have ih:=zjP n k
   rw [List.replicate_succ,zdt,ih,if_neg (by omega)]
theorem zmn {L:List Int} {k:Nat} (h:chk (L++List.replicate k 0)=0):chk L=0:=by
 unfold chk at h ⊢
 by_cases hl:lens (L++List.replicate k 0)
 · have hl':lens L:=⟨by have:=hl.1;rw [List.length_append] at this;omega,λx hx=>hl.2 x (List.mem_append.2 (.inl hx))⟩
   rw [if_neg (not_not_intro hl)] at h
   rw [if_neg (not_not_intro hl')]
   have hm:many (L++List.replicate k 0)=many L:=by
    have:many (L++List.replicate k 0)=many L+many (List.replicate k 0):=by unfold many;rw [List.countP_append]
    rw [this,zeV];rfl
   rw [zib,zf1,hm,zdL,zjP] at h
   exact h
 · rw [if_pos hl] at h
   exact absurd h (by decide)
theorem zlI {least:Nat} {L:List Int} (h:chk L=0):chk (tld least L)=0:=by
 obtain ⟨k,e,_⟩:=zay least L
 rw [e] at h
 exact zmn h
theorem zpa {least:Nat} {L:List Int} {x:Int} (h:x∈tld least L):x∈L:=by
 obtain ⟨k,e,_⟩:=zay least L
 rw [e];exact List.mem_append.2 (.inl h)
theorem zi8 (least:Nat) (L:List Int):(tld least L).length<=L.length:=by
 obtain ⟨k,e,_⟩:=zay least L
 have:=congrArg List.length e
 rw [List.length_append] at this;omega
theorem zop {least:Nat} {L:List Int} (h:least<=L.length):least<=(tld least L).length:=by
 obtain ⟨k,_,h2⟩:=zay least L
 omega
end Go.Vit
end
