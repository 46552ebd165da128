/- The library. -/
import Derived.Test.YtloeboiajgfigaaGreatVm4
import Derived.Attr
set_option linter.unusedVariables false
set_option linter.unusedSimpArgs false
section
namespace Go.Vit
inductive Tag where
 | i (k:IntKind)
 | b
 | s
 | v
@[reducible] def Tag.Ty:Tag->Type
 | .i _=>Int
 | .b=>Bool
 | .s=>ByteArray
 | .v=>AV
def Tag.inj:(g:Tag)->g.Ty->AV
 | .i k,n=>.int k n
 | .b,x=>.bool x
 | .s,x=>.str x
 | .v,x=>x
def zos:IntKind->Nat
 | .i8=>0 | .i16=>1 | .i32=>2 | .i64=>3 | .u8=>4 | .u16=>5 | .u32=>6 | .u64=>7
def zjE (a b:IntKind):Bool:=Nat.beq (zos a) (zos b)
theorem zej {a b:IntKind} (h:zjE a b=true):a=b:=by
 cases a<;>cases b<;>first | rfl | exact absurd h (by decide)
def ifB (b:Bool) (x y:Prop):Prop:=
 match b with
 | true=>x
 | false=>y
theorem z5c {b:Bool} {x:Prop} (h:ifB b x False):b=true/\x:=by
 cases b with
 | true=>exact ⟨rfl,h⟩
 | false=>exact h.elim
def zq (k:IntKind) (v:AV) (K:Int->Prop):Prop:=
 match v with
 | .int k' n=>ifB (zjE k k') (K n) False
 | _=>False
def z70 (v:AV) (K:Bool->Prop):Prop:=
 match v with
 | .bool b=>K b
 | _=>False
def z5t (v:AV) (K:ByteArray->Prop):Prop:=
 match v with
 | .str s=>K s
 | _=>False
def zl7 (g:Tag) (v:AV) (K:g.Ty->Prop):Prop:=
 match g,K with
 | .i k,K=>zq k v K
 | .b,K=>z70 v K
 | .s,K=>z5t v K
 | .v,K=>K v
theorem zfh {g:Tag} {v:AV} {K:g.Ty->Prop} (h:zl7 g v K):∃ x,v=g.inj x/\K x:=by
 cases g with
 | i k=>
   simp only [zl7] at h
   unfold zq at h
   split at h
   · obtain ⟨h1,h2⟩:=z5c h
     have:=zej h1
     subst this
     exact ⟨_,rfl,h2⟩
   · exact h.elim
 | b=>
   simp only [zl7] at h
   unfold z70 at h
   split at h
   · exact ⟨_,rfl,h⟩
   · exact h.elim
 | s=>
   simp only [zl7] at h
   unfold z5t at h
   split at h
   · exact ⟨_,rfl,h⟩
   · exact h.elim
 | v=>exact ⟨v,rfl,h⟩
def z4j {α:Type} (a:α) (K:α->Prop):Prop:=K a
def wrW (k:IntKind) (n:Int) (K:Int->Prop):Prop:=K (k.wrap n)
def zgH (k:IntKind) (a b:Int) (K:Int->Prop):Prop:=b≠0/\K (k.wrap (a.tdiv b))
def zhX (a b:Int) (K:Int->Prop):Prop:=b≠0/\K (a.tmod b)
def pow2 (n:Nat):Int:=((2^n:Nat):Int)
def ze1 (b:Int) (bits:Nat):Nat:=if b.toNat<=bits then b.toNat else bits
def zgu (k:IntKind) (a b:Int) (K:Int->Prop):Prop:=0<=b/\K (k.wrap (a*pow2 (ze1 b k.bits)))
def zlg (k:IntKind) (a b:Int) (K:Int->Prop):Prop:=0<=b/\K (a / pow2 (ze1 b k.bits))
theorem zca (n:Nat):pow2 n=2^n:=by simp [pow2]
theorem zo8 (n:Nat):0<pow2 n:=by unfold pow2;exact Int.ofNat_lt.2 (Nat.pow_pos (by decide))
def zh4 (bits:Nat):Int->Option Nat
 | .ofNat n=>some (if n<=bits then n else bits)
 | .negSucc _=>none
def zpJ (k:IntKind) (a n:Int) (K:Int->Prop):Prop:=
 match zh4 k.bits n with
 | some n=>wrW k (a*pow2 n) K
 | none=>False
def zq9 (k:IntKind) (a n:Int) (K:Int->Prop):Prop:=
 match zh4 k.bits n with
 | some n=>K (a / pow2 n)
 | none=>False
def AOpd.lit:AOpd->Option Int
 | .const (.int _ n)=>some n
 | _=>none
theorem zht {k:IntKind} {a b:Int} (h:0<=b):zhy .shl k a b=some (.int k (k.wrap (a*pow2 (ze1 b k.bits)))):=by
 simp only [zhy]
 rw [if_neg (by omega),zca,ze1,<- Nat.min_def]
theorem zi2 {k:IntKind} {a b:Int} (h:0<=b):zhy .shr k a b=some (.int k (a / pow2 (ze1 b k.bits))):=by
 simp only [zhy]
 rw [if_neg (by omega),<- Int.fdiv_eq_ediv_of_nonneg _ (Int.le_of_lt (zo8 _)),zca,ze1,<- Nat.min_def]
theorem zdQ {bits n:Nat} {b:Int} (h:zh4 bits b=some n):0<=b/\ze1 b bits=n:=by
 cases b with
 | ofNat m=>
   simp only [zh4,Option.some.injEq] at h
   exact ⟨Int.natCast_nonneg m,h⟩
 | negSucc m=>simp [zh4] at h
def zqO (op:BinOp) (a b:ByteArray) (K:AV->Prop):Prop:=
 match op with
 | .add=>a.size+b.size<=9223372036854775807/\K (.str (a++b))
 | .eql=>K (.bool (decide (a=b)))
 | .neq=>K (.bool (decide (a≠b)))
 | .lss=>K (.bool (Op.bytesLess (zI a) (zI b)))
 | .leq=>K (.bool (Op.bytesLess (zI a) (zI b)||decide (a=b)))
 | .gtr=>K (.bool (!(Op.bytesLess (zI a) (zI b)||decide (a=b))))
 | .geq=>K (.bool (!Op.bytesLess (zI a) (zI b)))
 | _=>False
theorem zmM {op:BinOp} {a b:ByteArray} {K:AV->Prop} (h:zqO op a b K):∃ v,zfo op a b=some v/\K v:=
 zl9 (by cases op<;>exact h)
def zqH (op:BinOp) (k:IntKind) (a b:Int) (K:AV->Prop):Prop:=
 match op with
 | .add=>wrW k (a+b) λc=>K (.int k c)
 | .sub=>wrW k (a-b) λc=>K (.int k c)
 | .mul=>wrW k (a*b) λc=>K (.int k c)
 | .quo=>zgH k a b λc=>K (.int k c)
 | .rem=>zhX a b λc=>K (.int k c)
 | .and=>K (.int k (zB .and k a b))
 | .or=>K (.int k (zB .or k a b))
 | .xor=>K (.int k (zB .xor k a b))
 | .andNot=>K (.int k (zB .andNot k a b))
 | .eql=>K (.bool (decide (a=b)))
 | .neq=>K (.bool (decide (a≠b)))
 | .lss=>K (.bool (decide (a<b)))
 | .leq=>K (.bool (decide (a<=b)))
 | .gtr=>K (.bool (decide (b<a)))
 | .geq=>K (.bool (decide (b<=a)))
 | _=>False
theorem zn1 {op:BinOp} {k:IntKind} {a b:Int} {K:AV->Prop} (h:zqH op k a b K):∃ v,zhs op k a b=some v/\K v:=by
 cases op<;>simp only [zqH] at h<;>simp only [zhs]
 case quo=>rw [if_neg h.1];exact ⟨_,rfl,h.2⟩
 case rem=>rw [if_neg h.1];exact ⟨_,rfl,h.2⟩
 case eql=>exact ⟨_,rfl,by rw [show (a == b)=decide (a=b) from rfl];exact h⟩
 case neq=>exact ⟨_,rfl,by rw [show (a != b)=decide (a≠b) from by by_cases e:a=b<;>simp [e]];exact h⟩
 all_goals first | exact h.elim | exact ⟨_,rfl,h⟩
def zql (op:BinOp) (e:EqK) (x y:AV) (K:AV->Prop):Prop:=
 match e with
 | .basic=>(match x with
   | .int k a=>(match y with
     | .int k' b=>(match op with
       | .shl=>zgu k a b λc=>K (.int k c)
       | .shr=>zlg k a b λc=>K (.int k c)
       | op=>ifB (zjE k k') (zqH op k a b K) False)
     | _=>False)
   | .str a=>(match y with
     | .str b=>zqO op a b K
     | _=>False)
   | _=>False)
 | e=>match op with
   | .eql=>eqW e x y λr=>K (.bool r)
   | .neq=>eqW e x y λr=>K (.bool (!r))
   | _=>False
theorem ziO {e:EqK} {k k':IntKind} {a b:Int} {r:Bool}:zeF e (.int k a) (.int k' b)≠some r:=by cases e<;>simp [zeF]
theorem ziW {e:EqK} {a b:ByteArray} {r:Bool}:zeF e (.str a) (.str b)≠some r:=by cases e<;>simp [zeF]
theorem zk4 {e:EqK} {x y:AV} {r:Bool} (h:zeF e x y=some r):znv .eql e x y=some (.bool r)/\znv .neq e x y=some (.bool (!r)):=by
 unfold znv
 split
 · exact absurd h ziO
 · exact absurd h ziW
 · simp [h]
theorem zh1 {op:BinOp} {e:EqK} {x y:AV} {K:AV->Prop} (h:zql op e x y K):∃ v,znv op e x y=some v/\K v:=by
 unfold zql at h
 split at h
 · split at h
   · split at h
     · split at h
       · obtain ⟨h0,h⟩:=h;exact ⟨_,zht h0,h⟩
       · obtain ⟨h0,h⟩:=h;exact ⟨_,zi2 h0,h⟩
       · rename_i h1 h2
         obtain ⟨hk,h3⟩:=z5c h
         have:=zej hk
         subst this
         obtain ⟨v,hv,h4⟩:=zn1 h3
         refine ⟨v,?_,h4⟩
         unfold znv
         cases op<;>first | exact (h1 rfl).elim | exact (h2 rfl).elim | (simp only [if_true];exact hv)
     · exact h.elim
   · split at h
     · exact zmM h
     · exact h.elim
   · exact h.elim
 · split at h
   · obtain ⟨r,hr,h⟩:=zjz h
     exact ⟨_,(zk4 hr).1,h⟩
   · obtain ⟨r,hr,h⟩:=zjz h
     exact ⟨_,(zk4 hr).2,h⟩
   · exact h.elim
def bin2S (op:BinOp) (e:EqK) (x y:AV) (l:Option Int) (K:AV->Prop):Prop:=
 match l with
 | some n=>(match op with
   | .shl=>(match e with
     | .basic=>castW2 x λk a=>zpJ k a n λc=>K (.int k c)
     | _=>False)
   | .shr=>(match e with
     | .basic=>castW2 x λk a=>zq9 k a n λc=>K (.int k c)
     | _=>False)
   | op=>zql op e x y K)
 | none=>zql op e x y K
where castW2 (x:AV) (K:IntKind->Int->Prop):Prop:=
 match x with
 | .int k a=>K k a
 | _=>False
theorem zkF {op:BinOp} {e:EqK} {x:AV} {yo:AOpd} {y:AV} {t:Tmps} {K:AV->Prop} (hy:yo.ev t=some y) (h:bin2S op e x y yo.lit K):∃ v,znv op e x y=some v/\K v:=by
 unfold bin2S at h
 split at h
 · rename_i l n hl
   have hyn:∃ k,y=.int k n:=by
    cases yo with
    | const c=>
      cases c<;>simp only [AOpd.lit,reduceCtorEq,Option.some.injEq] at hl
      subst hl
      simp only [AOpd.ev,Option.some.injEq] at hy
      exact ⟨_,hy.symm⟩
    | _=>simp [AOpd.lit] at hl
   obtain ⟨k',rfl⟩:=hyn
   split at h
   · split at h
     · unfold bin2S.castW2 at h
       split at h
       · unfold zpJ at h
         split at h
         · rename_i hm
           obtain ⟨h0,h1⟩:=zdQ hm
           refine ⟨_,zht h0,?_⟩
           rw [h1];exact h
         · exact h.elim
       · exact h.elim
     · exact h.elim
   · split at h
     · unfold bin2S.castW2 at h
       split at h
       · unfold zq9 at h
         split at h
         · rename_i hm
           obtain ⟨h0,h1⟩:=zdQ hm
           refine ⟨_,zi2 h0,?_⟩
           rw [h1];exact h
         · exact h.elim
       · exact h.elim
     · exact h.elim
   · exact zh1 h
 · exact zh1 h
def unS (op:UnOp) (x:AV) (K:AV->Prop):Prop:=
 match op with
 | .neg=>(match x with
   | .int k n=>wrW k (0-n) λc=>K (.int k c)
   | _=>False)
 | .xor=>(match x with
   | .int k n=>K (.int k (zB .xor k (ifV k.signed (-1) k.max) n))
   | _=>False)
 | .not=>(match x with
   | .bool b=>K (.bool (!b))
   | _=>False)
 | _=>False
where ifV (b:Bool) (x y:Int):Int:=
 match b with
 | true=>x
 | false=>y
theorem znC {op:UnOp} {x:AV} {K:AV->Prop} (h:unS op x K):∃ v,unV op x=some v/\K v:=by
 unfold unS at h
 split at h
 · split at h
   · exact ⟨_,rfl,h⟩
   · exact h.elim
 · split at h
   · refine ⟨_,rfl,?_⟩
     rename_i k n
     cases hs:k.signed<;>rw [hs] at h<;>simpa [unS.ifV] using h
   · exact h.elim
 · split at h
   · exact ⟨_,rfl,h⟩
   · exact h.elim
 · exact h.elim
/-! ### Parts of values -/
def zG (v:AV) (size:Nat) (X:Prop):Prop:=
 match v with
 | .agg l=>(l.length=size/\l.all AV.one=true)/\X
 | .tup _=>False
 | _=>ifB (Nat.beq size 1) X False
theorem zcl {v:AV} {size:Nat} {X:Prop} (h:zG v size X):(v.cells.length=size/\v.cells.all AV.one=true)/\X:=by
 cases v<;>simp only [zG] at h
 case agg l=>exact h
 all_goals
  obtain ⟨h1,h2⟩:=z5c h
  have:=Nat.eq_of_beq_eq_true h1
  subst this
  exact ⟨⟨rfl,rfl⟩,h2⟩
def znN (n:Nat) (t:Tmps) (l:List AV):List (Nat×Nat×AOpd)->(List AV->Prop)->Prop
 | [],k=>k l
 | (off,size,x)::rest,k=>evW x t λv=>zG v size (ifB (Nat.ble (off+size) n) (znN n t (setAt l off v.cells) rest k) False)
theorem zc4 {n:Nat} {t:Tmps}:∀ {ps:List (Nat×Nat×AOpd)} {l:List AV} {k:List AV->Prop},l.length=n->znN n t l ps k->∃ l',zdj t l ps=some l'/\k l'
 | [],l,k,_,h=>⟨l,rfl,h⟩
 | (off,size,x)::ps,l,k,hn,h=>by
   obtain ⟨v,hv,h⟩:=z3D h
   obtain ⟨⟨h1,h2⟩,h⟩:=zcl h
   obtain ⟨h3,h⟩:=z5c h
   obtain ⟨l',hl,h⟩:=zc4 (by rw [z8y];exact hn) h
   refine ⟨l',?_,h⟩
   simp only [zdj,hv,Option.bind_some]
   rw [if_pos ⟨h1,by have:=Nat.le_of_ble_eq_true h3;omega,h2⟩]
   exact hl
/-! ### Reading -/
def ldW (σ:Mem) (v:AV) (K:AV->Prop):Prop:=
 match v with
 | .ptr b o=>z4t (σ.cell b o) K
 | _=>False
def z5x (n:Nat) (σ:Mem) (v:AV) (K:AV->Prop):Prop:=
 match v with
 | .ptr b o=>z4t (σ.cells b o n) λc=>K (.agg c)
 | _=>False
def z8h (v:AV) (K:AV->Prop):Prop:=
 match v with
 | .ptr b o=>K (.ptr b o)
 | .func f c=>K (.func f c)
 | _=>False
def zeL (σ:Mem) (v:AV) (K:ByteArray->Prop):Prop:=
 match v with
 | .nils=>K ByteArray.empty
 | .slice b o n _=>z4t ((σ.cells b o n).bind z7C) λr=>K ⟨r.toArray⟩
 | _=>False
def zn4 (s:ByteArray) (X:Prop):Prop:=s.size<=9223372036854775806/\X
def repl (n:Nat) (z:List AV):List AV:=
 match z with
 | [a]=>List.replicate n a
 | z=>(List.replicate n z).flatten
theorem zpp (n:Nat) (z:List AV):repl n z=(List.replicate n z).flatten:=by
 unfold repl
 split
 · rename_i a
   induction n with
   | zero=>rfl
   | succ n ih=>rw [List.replicate_succ,List.replicate_succ,List.flatten_cons,<- ih];rfl
 · rfl
def zeH (bytes:Nat) (n c:Int) (X:Prop):Prop:=(0<=n/\n<=c/\(bytes:Int)*c<=140737488355328/\c<=9223372036854775807)/\X
def zi5 (s:ByteArray) (lo hi:Int) (K:ByteArray->Prop):Prop:=(0<=lo/\lo<=hi/\hi<=s.size)/\K (s.extract lo.toNat hi.toNat)
def orD (d:Int):Option Int->Int
 | none=>d
 | some n=>n
theorem zbj {len cap:Nat} {lo hi:Option AV} {lo' hi':Option Int} (hl:(lo=none/\lo'=none)\/∃ k n,lo=some (.int k n)/\lo'=some n) (hh:(hi=none/\hi'=none)\/∃ k n,hi=some (.int k n)/\hi'=some n)
 (h0:0<=orD 0 lo') (h1:orD 0 lo'<=orD len hi') (h2:orD len hi'<=cap):z0U len cap lo hi none=some ((orD 0 lo').toNat,(orD len hi').toNat,cap):=by
 unfold z0U
 rcases hh with ⟨rfl,rfl⟩ | ⟨k,n,rfl,rfl⟩<;>rcases hl with ⟨rfl,rfl⟩ | ⟨k',m,rfl,rfl⟩<;>simp only [orD] at h0 h1 h2 ⊢
 · simp
 · simp only [bnd,AV.asI,Option.bind_some,Option.isSome_none,Bool.false_eq_true,if_false]
   rw [if_pos ⟨h0,h1⟩];simp
 · simp only [bnd,AV.asI,Option.bind_some]
   rw [if_pos ⟨by omega,h2⟩];simp
 · simp only [bnd,AV.asI,Option.bind_some]
   rw [if_pos ⟨by omega,h2⟩]
   simp only [Option.bind_some]
   rw [if_pos ⟨h0,by omega⟩];simp
def zcJ (size:Nat) (v:AV) (lo hi:Option Int) (K:AV->Prop):Prop:=
 match v with
 | .slice b o n c=>(c.fits size=true/\0<=orD 0 lo/\orD 0 lo<=orD n hi/\orD n hi<=c.least n) /\
  K (.slice b (o+(orD 0 lo).toNat*size) ((orD n hi).toNat-(orD 0 lo).toNat) (c.cut false (orD 0 lo).toNat (c.least n)))
 | .nils=>(0<=orD 0 lo/\orD 0 lo<=orD (0:Nat) hi/\orD (0:Nat) hi<=(0:Nat))/\K .nils
 | _=>False
def slc3W (size:Nat) (v:AV) (lo:Option Int) (hi mx:Int) (K:AV->Prop):Prop:=
 match v with
 | .slice b o n c=>(c.fits size=true/\0<=orD 0 lo/\orD 0 lo<=hi/\hi<=mx/\mx<=c.least n) /\
  K (.slice b (o+(orD 0 lo).toNat*size) (hi.toNat-(orD 0 lo).toNat) (c.cut true (orD 0 lo).toNat mx.toNat))
 | _=>False
def zom (len size:Nat) (v:AV) (lo hi:Option Int) (K:AV->Prop):Prop:=
 match v with
 | .ptr b o=>(0<=orD 0 lo/\orD 0 lo<=orD len hi/\orD len hi<=len) /\
  K (.slice b (o+(orD 0 lo).toNat*size) ((orD len hi).toNat-(orD 0 lo).toNat) (.ex (len-(orD 0 lo).toNat)))
 | _=>False
def z6C (off:Nat) (v:AV) (K:AV->Prop):Prop:=
 match v with
 | .ptr b o=>K (.ptr b (o+off))
 | _=>False
def zqf (off:Nat) (k:Option Nat) (v:AV) (K:AV->Prop):Prop:=
 match v with
 | .agg l=>z4t (zfy l off k) K
 | _=>False
def zz (size:Nat) (v:AV) (j:Int) (K:AV->Prop):Prop:=
 match v with
 | .slice b o n _=>(0<=j/\j<n)/\K (.ptr b (o+j.toNat*size))
 | _=>False
def z3F (len size:Nat) (v:AV) (j:Int) (K:AV->Prop):Prop:=
 match v with
 | .ptr b o=>(0<=j/\j<len)/\K (.ptr b (o+j.toNat*size))
 | _=>False
def z56 (s:ByteArray) (j:Int) (K:Int->Prop):Prop:=(0<=j/\j<s.size)/\K (ze s j.toNat:Nat)
def zhw (len size:Nat) (k:Option Nat) (v:AV) (j:Int) (K:AV->Prop):Prop:=
 match v with
 | .agg l=>(0<=j/\j<len)/\z4t (zfy l (j.toNat*size) k) K
 | _=>False
def z6T (v:AV) (i:Nat) (K:AV->Prop):Prop:=
 match v with
 | .tup l=>z4t l[i]? K
 | _=>False
def zx (v:AV) (K:Int->Prop):Prop:=
 match v with
 | .nils=>K 0
 | .slice _ _ n _=>K (n:Nat)
 | _=>False
def zpv (v:AV) (K:Int->Prop):Prop:=
 match v with
 | .nils=>K 0
 | .slice _ _ _ (.ex k)=>K (k:Nat)
 | _=>False
def zpI (σ:Mem) (v:AV) (K:Int->Prop):Prop:=
 match v with
 | .nilm=>K 0
 | .map b=>z4t (σ.get b) λq=>(match q with
   | .map es _=>K (es.length:Nat)
   | _=>False)
 | _=>False
def znX (σ:Mem) (z:AV) (ok:Bool) (v kv:AV) (K:AV->Prop):Prop:=
 match v with
 | .nilm=>K (if ok then .tup [z,.bool false] else z)
 | .map b=>z4t (σ.get b) λq=>(match q with
   | .map es _=>z4t (z9m kv es) λr=>(match r with
     | some i=>z4t es[i]? λe=>K (if ok then .tup [e.2.1,.bool true] else e.2.1)
     | none=>K (if ok then .tup [z,.bool false] else z))
   | _=>False)
 | _=>False
def imax (a b:Int):Int:=if b>a then b else a
def imin (a b:Int):Int:=if b<a then b else a
def mmW (mx:Bool):AV->List AV->(AV->Prop)->Prop
 | a,[],K=>K a
 | a,b::l,K=>(match a with
   | .int k x=>(match b with
     | .int k' y=>ifB (zjE k k') (mmW mx (.int k (mm mx x y)) l K) False
     | _=>False)
   | _=>False)
where mm (mx:Bool) (x y:Int):Int:=
 match mx with
 | true=>imax x y
 | false=>imin x y
theorem zjl {mx:Bool}:∀ {l:List AV} {a:AV} {K:AV->Prop},mmW mx a l K->∃ r,za1 mx a l=some r/\K r
 | [],a,K,h=>⟨a,rfl,h⟩
 | b::l,a,K,h=>by
   unfold mmW at h
   split at h
   · split at h
     · obtain ⟨hk,h2⟩:=z5c h
       have:=zej hk
       subst this
       obtain ⟨r,hr,h3⟩:=zjl h2
       refine ⟨r,?_,h3⟩
       rw [<- hr]
       simp only [za1,ziT,if_true,Option.bind_some]
       cases mx<;>rfl
     · exact h.elim
   · exact h.elim
def zoB (x:Option AOpd) (t:Tmps) (k:Option Int->Prop):Prop:=
 match x with
 | none=>k none
 | some x=>evW x t λv=>(match v with
   | .int _ n=>k (some n)
   | _=>False)
theorem z5Y {x:Option AOpd} {t:Tmps} {k:Option Int->Prop} (h:zoB x t k):∃ o o',evo t x=some o/\((o=none/\o'=none/\x=none)\/∃ k n,o=some (.int k n)/\o'=some n)/\k o':=by
 cases x with
 | none=>exact ⟨none,none,rfl,.inl ⟨rfl,rfl,rfl⟩,h⟩
 | some x=>
   obtain ⟨v,hv,h⟩:=z3D h
   cases v<;>simp only at h
   rename_i k n
   exact ⟨_,_,by simp [evo,hv],.inr ⟨k,n,rfl,rfl⟩,h⟩
end Go.Vit
end
section
namespace Go.Vit
def zfU (v:AV) (X:Prop):Prop:=
 match v with
 | .agg l=>l.all AV.one=true/\X
 | .tup _=>False
 | _=>X
def zqm (kk:Bool) (k:AV) (X:Prop):Prop:=ifB (z8w kk k) X False
def zpD (id:Nat) (op:AOp) (t:Tmps) (σ:Mem) (K:AV->Prop) (B:AV->Blk->Prop):Prop:=
 match op with
 | .mov x=>evW x t K
 | .pick c a b=>evW c t λcv=>(match cv with
   | .bool r=>ifB r (evW a t K) (evW b t K)
   | _=>False)
 | .alloc z=>B (.ptr id 0) (.rw z)
 | .box x=>evW x t λv=>zfU v (B (.ptr id 0) (.rw v.cells))
 | .build z ps=>znN z.length t z ps λl=>K (.agg l)
 | .newSlice n z ps=>znN z.length t z ps λl=>B (.slice id 0 n (.ex n)) (.rw l)
 | .load k x=>evW x t λv=>(match k with
   | none=>ldW σ v K
   | some n=>z5x n σ v K)
 | .nilchk x=>evW x t λv=>z8h v K
 | .bin op e x y=>evW x t λa=>evW y t λb=>bin2S op e a b y.lit K
 | .un op x=>evW x t λa=>unS op a K
 | .conv c x=>evW x t λa=>(match c with
   | .toInt k=>(match a with
     | .int _ n=>wrW k n λc=>K (.int k c)
     | _=>False)
   | .strBytes=>(match a with
     | .str s=>zn4 s (B (.slice id 0 s.size (.op 1)) (.rw (bytesOf s)))
     | _=>False)
   | .bytesStr=>zeL σ a λs=>K (.str s)
   | .same=>(match a with
     | .str s=>K (.str s)
     | _=>False))
 | .mkFn f xs=>zoM xs t λl=>K (.func f l)
 | .mkMap=>B (.map id) (.map [] 0)
 | .make bytes size z n c=>evW n t λnv=>evW c t λcv=>(match nv with
   | .int _ n=>(match cv with
     | .int _ c=>ifB (Nat.beq z.length size) (zeH bytes n c (B (.slice id 0 n.toNat (.ex c.toNat)) (.rw (repl c.toNat z)))) False
     | _=>False)
   | _=>False)
 | .slStr x lo hi=>evW x t λa=>zoB lo t λl=>zoB hi t λh=>(match a with
   | .str s=>zi5 s (orD 0 l) (orD s.size h) λr=>K (.str r)
   | _=>False)
 | .slSl size x lo hi mx=>evW x t λa=>zoB lo t λl=>zoB hi t λh=>(match mx with
   | none=>zcJ size a l h K
   | some mx=>zoB (some mx) t λm=>(match h with
     | some h=>(match m with
       | some m=>slc3W size a l h m K
       | none=>False)
     | none=>False))
 | .slArr len size x lo hi=>evW x t λa=>zoB lo t λl=>zoB hi t λh=>zom len size a l h K
 | .faddr off x=>evW x t λv=>z6C off v K
 | .field off k x=>evW x t λv=>zqf off k v K
 | .iaddrS size x i=>evW x t λv=>evW i t λiv=>(match iv with
   | .int _ j=>zz size v j K
   | _=>False)
 | .iaddrA len size x i=>evW x t λv=>evW i t λiv=>(match iv with
   | .int _ j=>z3F len size v j K
   | _=>False)
 | .idxStr x i=>evW x t λv=>evW i t λiv=>(match v with
   | .str s=>(match iv with
     | .int _ j=>z56 s j λc=>K (.int .u8 c)
     | _=>False)
   | _=>False)
 | .idxArr len size k x i=>evW x t λv=>evW i t λiv=>(match iv with
   | .int _ j=>zhw len size k v j K
   | _=>False)
 | .extract x i=>evW x t λv=>z6T v i K
 | .len q x=>evW x t λv=>(match q with
   | true=>(match v with
     | .str s=>K (.int .i64 s.size)
     | _=>False)
   | false=>zx v λn=>K (.int .i64 n))
 | .cap x=>evW x t λv=>zpv v λn=>K (.int .i64 n)
 | .lenArr n=>K (.int .i64 n)
 | .lenMap x=>evW x t λv=>zpI σ v λn=>K (.int .i64 n)
 | .lookup kk z ok x k=>evW x t λv=>evW k t λkv=>zqm kk kv (znX σ z ok v kv K)
 | .minmax mx x xs=>evW x t λv=>zoM xs t λl=>mmW mx v l K
 | _=>False
theorem zkG {len cap:Nat} {lo:Option AV} {lo':Option Int} {k k':IntKind} {hi mx:Int} (hl:(lo=none/\lo'=none)\/∃ k n,lo=some (.int k n)/\lo'=some n)
 (h0:0<=orD 0 lo') (h1:orD 0 lo'<=hi) (h2:hi<=mx) (h3:mx<=cap):z0U len cap lo (some (.int k hi)) (some (.int k' mx))=some ((orD 0 lo').toNat,hi.toNat,mx.toNat):=by
 unfold z0U
 rcases hl with ⟨rfl,rfl⟩ | ⟨k',m,rfl,rfl⟩<;>simp only [orD] at h0 h1 ⊢<;>simp only [bnd,AV.asI,Option.bind_some]
 · rw [if_pos ⟨by omega,h3⟩];simp only [Option.bind_some];rw [if_pos ⟨by omega,by omega⟩];simp
 · rw [if_pos ⟨by omega,h3⟩];simp only [Option.bind_some];rw [if_pos ⟨by omega,by omega⟩];simp only [Option.bind_some];rw [if_pos ⟨by omega,by omega⟩];simp
theorem weak {o:Option AV} {o':Option Int} {x:Option AOpd} (h:(o=none/\o'=none/\x=none)\/∃ k n,o=some (.int k n)/\o'=some n):(o=none/\o'=none)\/∃ k n,o=some (.int k n)/\o'=some n:=
 h.imp_left λh=>⟨h.1,h.2.1⟩
theorem zk2 (t:Tmps):evo t none=some none:=rfl
theorem zna {id:Nat} {op:AOp} {t:Tmps} {σ:Mem} {K:AV->Prop} {B:AV->Blk->Prop} (h:zpD id op t σ K B):∃ r,nop id op t σ=some r/\onW K B r.1 r.2:=by
 cases op<;>simp only [zpD] at h<;>simp only [nop]
 case mov x=>exact z59 h λv h=>⟨(_,_),rfl,h⟩
 case pick c a b=>
  refine z59 h λv h=>?_
  cases v<;>first | exact h.elim | skip
  rename_i r
  cases r
  · exact z59 h λv h=>⟨(_,_),rfl,h⟩
  · exact z59 h λv h=>⟨(_,_),rfl,h⟩
 case alloc z=>exact ⟨(_,_),rfl,h⟩
 case box x=>
  refine z59 h λv h=>?_
  have:v.cells.all AV.one=true/\B (.ptr id 0) (.rw v.cells):=by
   cases v<;>first | exact h | exact h.elim | exact ⟨rfl,h⟩
  exact ⟨(_,some _),by rw [if_pos this.1],this.2⟩
 case build z ps=>
  obtain ⟨l,hl,h⟩:=zc4 rfl h
  exact ⟨(_,none),by rw [hl];rfl,h⟩
 case newSlice n z ps=>
  obtain ⟨l,hl,h⟩:=zc4 rfl h
  exact ⟨(_,some _),by rw [hl];rfl,h⟩
 case load k x=>
  refine z59 h λv h=>?_
  cases k with
  | none=>
    unfold ldW at h
    cases v<;>first | exact h.elim | skip
    obtain ⟨a,ha,h⟩:=zn h
    exact ⟨(_,none),by dsimp only;rw [zfm ha];rfl,h⟩
  | some n=>
    simp only [z5x] at h
    cases v<;>first | exact h.elim | skip
    obtain ⟨c,hc,h⟩:=zn h
    exact ⟨(_,none),by dsimp only;rw [hc];rfl,h⟩
 case nilchk x=>
  refine z59 h λv h=>?_
  cases v<;>first | exact h.elim | exact ⟨(_,_),rfl,h⟩
 case bin op e x y=>
  obtain ⟨a,ha,h⟩:=z3D h
  obtain ⟨b,hb,h⟩:=z3D h
  obtain ⟨v,hv,h⟩:=zkF hb h
  exact ⟨(v,none),by simp only [ha,hb,Option.bind_some,hv],h⟩
 case un op x=>exact z59 h λa h=>zol (znC h) λv h=>⟨(_,_),rfl,h⟩
 case conv c x=>
  refine z59 h λa h=>?_
  cases c
  case toInt k=>cases a<;>first | exact h.elim | exact ⟨_,rfl,h⟩
  case strBytes=>
   cases a<;>first | exact h.elim | skip
   exact ⟨(_,some _),by dsimp only;rw [if_pos (by have:=h.1;omega)],h.2⟩
  case bytesStr=>
   cases a<;>first | exact h.elim | skip
   · exact ⟨(_,_),rfl,h⟩
   · obtain ⟨r,hr,h⟩:=zn h
     simp only [Option.bind_eq_some_iff] at hr
     obtain ⟨l,hl,hr⟩:=hr
     exact ⟨(_,none),by simp only [hl,Option.bind_some,hr],h⟩
  case same=>cases a<;>first | exact h.elim | exact ⟨(_,_),rfl,h⟩
 case mkFn f xs=>exact zpL h λv h=>⟨(_,_),rfl,h⟩
 case mkMap=>exact ⟨(_,_),rfl,h⟩
 case make bytes size z n c=>
  refine z59 h λnv h=>z59 h λcv h=>?_
  cases nv<;>first | exact h.elim | skip
  cases cv<;>first | exact h.elim | skip
  obtain ⟨h1,h2,h⟩:=z5c h
  refine ⟨(_,some _),by dsimp only [AV.asI,Option.bind_some];rw [if_pos ⟨h2.1,h2.2.1,h2.2.2.2,by simpa using h2.2.2.1,Nat.eq_of_beq_eq_true h1⟩],?_⟩
  rw [<- zpp];exact h
 case slStr x lo hi=>
  refine z59 h λa h=>?_
  obtain ⟨l,l',hl,hl',h⟩:=z5Y h
  obtain ⟨u,u',hu,hu',h⟩:=z5Y h
  cases a<;>first | exact h.elim | skip
  obtain ⟨⟨h1,h2,h3⟩,h⟩:=h
  exact ⟨(_,none),by simp only [hl,hu,Option.bind_some,zbj (weak hl') (weak hu') h1 h2 h3],h⟩
 case slSl size x lo hi mx=>
  refine z59 h λa h=>?_
  obtain ⟨l,l',hl,hl',h⟩:=z5Y h
  obtain ⟨u,u',hu,hu',h⟩:=z5Y h
  cases mx with
  | none=>
    cases a<;>first | exact h.elim | skip
    · obtain ⟨⟨h1,h2,h3⟩,h⟩:=h
      exact ⟨(_,none),by simp only [hl,hu,Option.bind_some,zk2,zbj (weak hl') (weak hu') h1 h2 h3],h⟩
    · obtain ⟨⟨h0,h1,h2,h3⟩,h⟩:=h
      refine ⟨(_,none),by simp only [hl,hu,Option.bind_some,zk2,h0,if_true,zbj (weak hl') (weak hu') h1 h2 h3];rfl,h⟩
  | some mx=>
    obtain ⟨m,m',hm,hm',h⟩:=z5Y h
    cases u'<;>cases m'<;>first | exact h.elim | skip
    rename_i u' m'
    rcases hu' with ⟨_,e,_⟩ | ⟨ku,nu,rfl,e⟩
    · cases e
    rcases hm' with ⟨_,e',_⟩ | ⟨km,nm,rfl,e'⟩
    · cases e'
    cases e;cases e'
    cases a<;>first | exact h.elim | skip
    obtain ⟨⟨h0,h1,h2,h3,h4⟩,h⟩:=h
    exact ⟨(_,none),by simp only [hl,hu,hm,Option.bind_some,h0,if_true,zkG (weak hl') h1 h2 h3 h4];rfl,h⟩
 case slArr len size x lo hi=>
  refine z59 h λa h=>?_
  obtain ⟨l,l',hl,hl',h⟩:=z5Y h
  obtain ⟨u,u',hu,hu',h⟩:=z5Y h
  cases a<;>first | exact h.elim | skip
  obtain ⟨⟨h1,h2,h3⟩,h⟩:=h
  exact ⟨(_,none),by simp only [hl,hu,Option.bind_some,zbj (weak hl') (weak hu') h1 h2 h3],h⟩
 case faddr off x=>
  refine z59 h λv h=>?_
  cases v<;>first | exact h.elim | exact ⟨(_,_),rfl,h⟩
 case field off k x=>
  refine z59 h λv h=>?_
  cases v<;>first | exact h.elim | skip
  obtain ⟨r,hr,h⟩:=zn h
  exact ⟨(_,none),by simp only [hr,Option.bind_some],h⟩
 case iaddrS size x i=>
  refine z59 h λv h=>z59 h λiv h=>?_
  cases iv<;>first | exact h.elim | skip
  cases v<;>first | exact h.elim | skip
  exact ⟨(_,none),by dsimp only [AV.asI,Option.bind_some];rw [if_pos h.1],h.2⟩
 case iaddrA len size x i=>
  refine z59 h λv h=>z59 h λiv h=>?_
  cases iv<;>first | exact h.elim | skip
  cases v<;>first | exact h.elim | skip
  exact ⟨(_,none),by dsimp only [AV.asI,Option.bind_some];rw [if_pos h.1],h.2⟩
 case idxStr x i=>
  refine z59 h λv h1=>z59 h1 λiv h2=>?_
  cases v<;>first | exact h2.elim | skip
  cases iv<;>first | exact h2.elim | skip
  rename_i s k j
  obtain ⟨⟨h0,h1⟩,h⟩:=h2
  have hc:=zfg (s:=s) (i:=j.toNat) (by omega)
  have hb:ze s j.toNat=(UInt8.ofNat (ze s j.toNat)).toNat:=by
   have:=zF s j.toNat
   rw [UInt8.toNat_ofNat'];omega
  unfold zI at hc
  exact ⟨(_,none),by dsimp only [AV.asI,Option.bind_some];rw [if_pos h0,hc];rfl,by rw [<- hb];exact h⟩
 case idxArr len size k x i=>
  refine z59 h λv h=>z59 h λiv h=>?_
  cases iv<;>first | exact h.elim | skip
  cases v<;>first | exact h.elim | skip
  obtain ⟨h0,h⟩:=h
  obtain ⟨r,hr,h⟩:=zn h
  exact ⟨(_,none),by dsimp only [AV.asI,Option.bind_some];rw [if_pos h0,hr];rfl,h⟩
 case extract x i=>
  refine z59 h λv h=>?_
  cases v<;>first | exact h.elim | skip
  obtain ⟨r,hr,h⟩:=zn h
  exact ⟨(_,none),by simp only [hr,Option.bind_some],h⟩
 case len q x=>
  refine z59 h λv h=>?_
  cases q
  · simp only [zx] at h
    cases v<;>first | exact h.elim | exact ⟨(_,_),rfl,h⟩
  · cases v<;>first | exact h.elim | exact ⟨(_,_),rfl,h⟩
 case cap x=>
  refine z59 h λv h=>?_
  simp only [zpv] at h
  cases v<;>first | exact h.elim | exact ⟨(_,_),rfl,h⟩ | skip
  rename_i b o n c
  cases c<;>first | exact h.elim | exact ⟨(_,_),rfl,h⟩
 case lenArr n=>exact ⟨(_,_),rfl,h⟩
 case lenMap x=>
  refine z59 h λv h=>?_
  cases v<;>first | exact h.elim | skip
  · exact ⟨(_,_),rfl,h⟩
  · obtain ⟨q,hg,h⟩:=zn h
    cases q<;>first | exact h.elim | skip
    exact ⟨(_,none),by simp only [hg,Option.bind_some],h⟩
 case lookup kk z ok x k=>
  refine z59 h λv h=>z59 h λkv h=>?_
  obtain ⟨hk,h⟩:=z5c h
  rw [hk]
  simp only [Bool.not_true,Bool.false_eq_true,if_false]
  cases v<;>first | exact h.elim | skip
  · refine ⟨(if ok then .tup [z,.bool false] else z,none),?_,h⟩
    simp [z9m]
  · obtain ⟨q,hg,h⟩:=zn h
    cases q<;>first | exact h.elim | skip
    obtain ⟨r,hf,h⟩:=zn h
    cases r with
    | some i=>
      obtain ⟨e,he,h⟩:=zn h
      refine ⟨(if ok then .tup [e.2.1,.bool true] else e.2.1,none),?_,h⟩
      simp [hg,hf,he]
    | none=>
      refine ⟨(if ok then .tup [z,.bool false] else z,none),?_,h⟩
      simp [hg,hf]
 case minmax mx x xs=>
  refine z59 h λv h=>zpL h λl h=>?_
  obtain ⟨r,hr,h⟩:=zjl h
  exact ⟨(_,none),by simp only [hr,Option.bind_some],h⟩
/-! ### What changes memory -/
def stW (n:Nat) (σ:Mem) (a v:AV) (K:Mem->Prop):Prop:=
 match a with
 | .ptr b o=>z4t (σ.get b) λq=>(match q with
   | .rw c=>zG v n (o+n<=c.length/\K (σ.put b (some (.rw (setAt c o v.cells)))))
   | _=>False)
 | _=>False
def apW (size bytes id:Nat) (σ:Mem) (sv xv:AV) (K:AV->Mem->Prop):Prop:=
 zlj σ size xv λm c=>c.all AV.one=true/\(match sv with
  | .nils=>(m=0->K .nils σ)/\(m≠0->roomy m bytes/\K (.slice id 0 m (.op size)) (σ.put id (some (.rw c))))
  | .slice b o n q=>(m=0->K (.slice b o n q) σ)/\(m≠0->(match q with
   | .ex k=>(n+m<=k->z4t (σ.get b) λq=>(match q with
    | .rw l=>o+(n+m)*size<=l.length/\K (.slice b o (n+m) (.ex k)) (σ.put b (some (.rw (setAt l (o+n*size) c))))
    | _=>False)) /\
    (k<n+m->roomy (n+m) bytes/\z4t (σ.cells b o (n*size)) λl=>
     l.all AV.one=true/\K (.slice id 0 (n+m) (.op size)) (σ.put id (some (.rw (l++c)))))
   | .op s=>z4t (σ.get b) λq=>(match q with
     | .rw l=>(s=size/\o=0/\n*size<=l.length)/\roomy (n+m) bytes/\l.all AV.one=true /\
       K (.slice id 0 (n+m) (.op size)) ((σ.put b none).put id (some (.rw (l.take (n*size)++c))))
     | _=>False)))
  | _=>False)
def zqD (size bytes id:Nat) (z:List AV) (σ:Mem) (sv nv:AV) (K:AV->Mem->Prop):Prop:=
 match sv with
 | .nils=>(match nv with
   | .int _ m=>(m=0->K .nils σ)/\(m≠0->(0<m/\roomy m.toNat bytes)/\z.all AV.one=true/\K (.slice id 0 m.toNat (.op size)) (σ.put id (some (.rw (List.replicate m.toNat z).flatten))))
   | _=>False)
 | _=>False
def cpW (size:Nat) (σ:Mem) (dv sv:AV) (K:Int->Mem->Prop):Prop:=
 match dv with
 | .nils=>(match sv with
   | .nils=>True
   | .slice ..=>True
   | .str _=>size=1
   | _=>False)/\K 0 σ
 | .slice b o n _=>(match sv with
   | .nils=>K 0 σ
   | .slice b' o' m _=>z4t (σ.cells b' o' (Nat.min m n*size)) λl=>(Nat.min m n=0->K 0 σ) /\
    (Nat.min m n≠0->z4t (σ.get b) λq=>(match q with
     | .rw c=>(o+l.length<=c.length/\l.all AV.one=true)/\K (Nat.min m n:Nat) (σ.put b (some (.rw (setAt c o l))))
     | _=>False))
   | .str s=>size=1/\(Nat.min s.size n=0->K 0 σ) /\
    (Nat.min s.size n≠0->z4t (σ.get b) λq=>(match q with
     | .rw c=>o+Nat.min s.size n<=c.length/\K (Nat.min s.size n:Nat) (σ.put b (some (.rw (setAt c o ((bytesOf s).take (Nat.min s.size n))))))
     | _=>False))
   | _=>False)
 | _=>False
def zpA (σ:Mem) (m:AV) (K:Nat->List (AV×AV×Nat)->Nat->Prop):Prop:=
 match m with
 | .map b=>z4t (σ.get b) λq=>(match q with
   | .map es clock=>K b es clock
   | _=>False)
 | _=>False
theorem zbt {σ:Mem} {m:AV} {K:Nat->List (AV×AV×Nat)->Nat->Prop} (h:zpA σ m K):∃ b es clock,m=.map b/\σ.get b=some (.map es clock)/\K b es clock:=by
 unfold zpA at h
 split at h
 · obtain ⟨q,hq,h⟩:=zn h
   cases q<;>first | exact h.elim | skip
   exact ⟨_,_,_,rfl,hq,h⟩
 · exact h.elim
def zqE (σ:Mem) (m k v:AV) (K:Mem->Prop):Prop:=
 zpA σ m λb es clock=>z4t (z9m k es) λr=>(match r with
  | some i=>K (σ.put b (some (.map (es.modify i λe=>(k,v,e.2.2)) clock)))
  | none=>K (σ.put b (some (.map (es++[(k,v,clock)]) (clock+1)))))
def zqI (σ:Mem) (z m k:AV) (K:AV->Mem->Prop):Prop:=
 zpA σ m λb es clock=>z4t (z9m k es) λr=>(match r with
  | some i=>z4t es[i]? λe=>K (.tup [e.2.1,.int .i64 e.2.2]) (σ.put b (some (.map (es.modify i λe=>(k,e.2)) clock)))
  | none=>K (.tup [z,.int .i64 clock]) (σ.put b (some (.map (es++[(k,z,clock)]) (clock+1)))))
def zqz (σ:Mem) (m:AV) (j:Int) (v:AV) (K:Mem->Prop):Prop:=
 zpA σ m λb es clock=>z4t (es.findIdx? (λe=>(e.2.2:Int) == j)) λi=>
  K (σ.put b (some (.map (es.modify i λe=>(e.1,v,e.2.2)) clock)))
def zpE (σ:Mem) (m k:AV) (K:Mem->Prop):Prop:=
 match m with
 | .nilm=>K σ
 | m=>zpA σ m λb es clock=>z4t (z9m k es) λr=>(match r with
   | some i=>K (σ.put b (some (.map (es.eraseIdx i) clock)))
   | none=>K σ)
def zqg (id:Nat) (op:AOp) (t:Tmps) (σ:Mem) (K:AV->Mem->Prop):Prop:=
 match op with
 | .store n a x=>evW a t λav=>evW x t λv=>stW n σ av v λσ'=>K (.tup []) σ'
 | .append size bytes s x=>evW s t λsv=>evW x t λxv=>apW size bytes id σ sv xv K
 | .appendZ size bytes z s n=>evW s t λsv=>evW n t λnv=>zqD size bytes id z σ sv nv K
 | .copy size d s=>evW d t λdv=>evW s t λsv=>cpW size σ dv sv λn σ'=>K (.int .i64 n) σ'
 | .mapUpd kk m k x=>evW m t λmv=>evW k t λkv=>evW x t λv=>zqm kk kv (zqE σ mv kv v λσ'=>K (.tup []) σ')
 | .mapEnt kk z m k=>evW m t λmv=>evW k t λkv=>zqm kk kv (zqI σ z mv kv K)
 | .entSt m s x=>evW m t λmv=>evW s t λsv=>evW x t λv=>(match sv with
   | .int _ j=>zqz σ mv j v λσ'=>K (.tup []) σ'
   | _=>False)
 | .del kk m k=>evW m t λmv=>evW k t λkv=>zqm kk kv (zpE σ mv kv λσ'=>K (.tup []) σ')
 | _=>False
theorem zms {id:Nat} {op:AOp} {t:Tmps} {σ:Mem} {K:AV->Mem->Prop} (h:zqg id op t σ K):∃ r,eop id op t σ=some r/\K r.1 r.2:=by
 cases op<;>simp only [zqg] at h
 case store n a x=>
  simp only [eop]
  refine z59 h λav h=>z59 h λv h=>?_
  simp only [stW] at h
  cases av<;>first | exact h.elim | skip
  obtain ⟨q,hc,h⟩:=zn h
  cases q<;>first | exact h.elim | skip
  obtain ⟨⟨h1,h2⟩,h3,h⟩:=zcl h
  exact ⟨(_,_),by simp only [hc];rw [if_pos ⟨h1,h3,h2⟩];rfl,h⟩
 case append size bytes s x=>exact zhj (op:=.append size bytes s x) h
 case appendZ size bytes z s n=>
  simp only [eop]
  refine z59 h λsv h=>z59 h λnv h=>?_
  cases sv<;>first | exact h.elim | skip
  cases nv<;>first | exact h.elim | skip
  rename_i k m
  dsimp only [zqD] at h
  by_cases h0:m=0
  · exact ⟨(.nils,σ),by simp only [h0,if_true],h.1 h0⟩
  · obtain ⟨⟨h1,h2⟩,h3,h4⟩:=h.2 h0
    exact ⟨(.slice id 0 m.toNat (.op size),σ.put id (some (.rw (List.replicate m.toNat z).flatten))),by simp only [h0,if_false];rw [if_pos ⟨h1,h2.1,h2.2,h3⟩],h4⟩
 case copy size d s=>
  refine zhj (op:=.copy size d s) ?_
  simp only [zqt]
  obtain ⟨dv,hd,h⟩:=z3D h
  obtain ⟨sv,hs,h⟩:=z3D h
  have ev:∀ {x:AOpd} {v:AV} {k:AV->Prop},x.ev t=some v->k v->evW x t k:=by
   intro x v k hx hk
   cases x with
   | tmp i=>simp only [AOpd.ev] at hx;simp only [evW,hx];exact hk
   | const c=>simp only [AOpd.ev,Option.some.injEq] at hx;subst hx;exact hk
   | glob g=>simp only [AOpd.ev,Option.some.injEq] at hx;subst hx;exact hk
  exact ev hd (ev hs h)
 case mapUpd kk m k x=>
  simp only [eop]
  refine z59 h λmv h=>z59 h λkv h=>z59 h λv h=>?_
  obtain ⟨hk,h⟩:=z5c h
  rw [hk]
  simp only [Bool.not_true,Bool.false_eq_true,if_false]
  obtain ⟨b,es,clock,rfl,hg,h⟩:=zbt h
  obtain ⟨r,hr,h⟩:=zn h
  cases r with
  | some i=>exact ⟨(_,_),by simp only [hg,hr,Option.bind_some];rfl,h⟩
  | none=>exact ⟨(_,_),by simp only [hg,hr,Option.bind_some];rfl,h⟩
 case mapEnt kk z m k=>
  simp only [eop]
  refine z59 h λmv h=>z59 h λkv h=>?_
  obtain ⟨hk,h⟩:=z5c h
  rw [hk]
  simp only [Bool.not_true,Bool.false_eq_true,if_false]
  obtain ⟨b,es,clock,rfl,hg,h⟩:=zbt h
  obtain ⟨r,hr,h⟩:=zn h
  cases r with
  | some i=>
    obtain ⟨e,he,h⟩:=zn h
    exact ⟨(_,_),by simp only [hg,hr,he,Option.bind_some];rfl,h⟩
  | none=>exact ⟨(_,_),by simp only [hg,hr,Option.bind_some];rfl,h⟩
 case entSt m s x=>
  simp only [eop]
  refine z59 h λmv h=>z59 h λsv h=>z59 h λv h=>?_
  cases sv<;>first | exact h.elim | skip
  obtain ⟨b,es,clock,rfl,hg,h⟩:=zbt h
  obtain ⟨i,hi,h⟩:=zn h
  exact ⟨(_,_),by simp only [AV.asI,hg,hi,Option.bind_some];rfl,h⟩
 case del kk m k=>
  simp only [eop]
  refine z59 h λmv h=>z59 h λkv h=>?_
  obtain ⟨hk,h⟩:=z5c h
  rw [hk]
  simp only [Bool.not_true,Bool.false_eq_true,if_false]
  unfold zpE at h
  split at h
  · exact ⟨(_,_),rfl,h⟩
  · obtain ⟨b,es,clock,rfl,hg,h⟩:=zbt h
    obtain ⟨r,hr,h⟩:=zn h
    cases r with
    | some i=>exact ⟨(_,_),by simp only [hg,hr,Option.bind_some];rfl,h⟩
    | none=>exact ⟨(_,_),by simp only [hg,hr,Option.bind_some],h⟩
end Go.Vit
end
section
namespace Go.Vit
/-! ### Curried predicates over some things and memory -/
def Fn:List Tag->Type
 | []=>Mem->Prop
 | g::gs=>g.Ty->Fn gs
def Ar:List Tag->Type
 | []=>Unit
 | g::gs=>g.Ty×Ar gs
def Fn.ap:(gs:List Tag)->Fn gs->Ar gs->Mem->Prop
 | [],k,_,σ=>k σ
 | _::gs,k,a,σ=>Fn.ap gs (k a.1) a.2 σ
def Fn.lam:(gs:List Tag)->(Ar gs->Mem->Prop)->Fn gs
 | [],k=>λσ=>k () σ
 | _::gs,k=>λx=>Fn.lam gs λa σ=>k (x,a) σ
theorem Fn.ap_lam:∀ (gs:List Tag) (k:Ar gs->Mem->Prop) (a:Ar gs) (σ:Mem),Fn.ap gs (Fn.lam gs k) a σ=k a σ
 | [],k,a,σ=>rfl
 | _::gs,k,a,σ=>by rw [Fn.ap,Fn.lam,Fn.ap_lam gs];rfl
def zd (gs:List Tag) (body:Fn gs->Prop) (rest:Fn gs):Prop:=
 ∃ R:Fn gs,body R/\∀ a σ,Fn.ap gs R a σ->Fn.ap gs rest a σ
def zkL (gs:List Tag) (body:Fn gs->Fn gs) (s:Ar gs) (σ:Mem):Prop:=
 ∃ (ι:Type) (I:ι->Ar gs->Mem->Prop) (μ:ι->Nat) (i:ι),I i s σ /\
  ∀ i s σ,I i s σ->Fn.ap gs (body (Fn.lam gs λs' σ'=>∃ j,I j s' σ'/\μ j<μ i)) s σ
def zj (gs:List Tag) (body:Fn gs->Fn gs):Fn gs:=Fn.lam gs (zkL gs body)
/-! ### Code -/
inductive TCode where
 | skip
 | region (n:Nat) (ops:List RegE)
 | seq (a b:TCode)
 | cond (c:AOpd) (thn els:TCode)
 | block (id:Nat) (body:TCode)
 | loop (cs ks:List Nat) (body:TCode)
 | exit (id:Nat)
 | ret
 | scope (body:TCode)
 | join (cs ks:List Nat) (body:TCode)
 | range (g:AOpd) (ps:List Nat) (a b:TCode)
 | regionX (n:Nat) (ops:List RegE) (p q:RegE) (fq fp:List (Nat×AOp))
 | stuck
def TCode.erase:TCode->ACode
 | .skip=>.skip
 | .region n ops=>.region n ops
 | .seq a b=>.seq a.erase b.erase
 | .cond c a b=>.cond c a.erase b.erase
 | .block id a=>.block id a.erase
 | .loop cs ks a=>.seq (.forget (ks++cs)) (.loop (.seq a.erase (.forget (ks++cs))))
 | .exit id=>.exit id
 | .ret=>.ret
 | .scope a=>.scope a.erase
 | .join cs ks a=>.seq a.erase (.forget (ks++cs))
 | .range g ps a b=>.range g ps a.erase b.erase
 | .regionX n ops p q fq fp=>.regionX n ops p q fq fp
 | .stuck=>.stuck
abbrev Ann:=Option (List Nat×List Nat)
def keepT (k:Ann) (a:TCode):TCode:=
 match k with
 | none=>a
 | some ks=>.join ks.1 ks.2 a
def zw (top:Bool) (P:Program) (N:Nat):Code->List Ann->Option (TCode×List Ann)
 | .skip,l=>some (.skip,l)
 | .label _,l=>some (.skip,l)
 | .region _ ops draw,l=>(match l with
   | []=>none
   | k::l=>(z9b P N ops draw).bind λa=>(match a with
     | .region n es=>some (keepT k (.region n es),l)
     | .regionX n es p q fq fp=>some (keepT k (.regionX n es p q fq fp),l)
     | _=>none))
 | .seq a b,l=>(zw top P N a l).bind λx=>(zw top P N b x.2).bind λy=>some (.seq x.1 y.1,y.2)
 | .cond c a b,l=>(match l with
   | []=>none
   | k::l=>(opd c).bind λc=>(zw top P N a l).bind λx=>(zw top P N b x.2).bind λy=>some (keepT k (.cond c x.1 y.1),y.2))
 | .block id a,l=>(match l with
   | []=>none
   | k::l=>(zw top P N a l).bind λx=>some (keepT k (.block id x.1),x.2))
 | .loop a,l=>(match l with
   | some ks::l=>(zw top P N a l).bind λx=>some (.loop ks.1 ks.2 x.1,x.2)
   | _=>none)
 | .scope a,l=>(zw top P N a l).bind λx=>some (.scope x.1,x.2)
 | .exit id,l=>some (.exit id,l)
 | .ret,l=>some (.ret,l)
 | .rangeFunc g ps a b,l=>(match top with
   | true=>(opd g).bind λg=>(zw false P N a l).bind λx=>(zw false P N b x.2).bind λy=>if ps.toList.all λi=>decide (i<N) then some (.range g ps.toList x.1 y.1,y.2) else none
   | false=>some (.stuck,l))
 | _,l=>some (.stuck,l)
structure TFunc where
 N:Nat
 body:TCode
 res:List ARes
def z8C (P:Program) (f:Nat) (ks:List Ann):Option TFunc:=
 (P.funcs[f]?).bind fun fn => fn.body.bind fun c => ifO (fn.name == "runtime.NumGoroutine") none
  ((zw true P fn.ntmps c ks).bind λb=>(z2C P fn.results.toList).bind λr=>some ⟨fn.ntmps,b.1,r⟩)
where ifO {α:Type} (b:Bool) (x y:α):α:=
 match b with
 | true=>x
 | false=>y
theorem zcY {P:Program} {N:Nat} {ro:Option Nat} {Y:z6a} {x:Code} {a:TCode} (h:zE ro P Y N x a.erase) (k:Ann):zE ro P Y N x (keepT k a).erase:=by
 cases k with
 | none=>exact h
 | some ks=>exact h.keepAfter _
theorem zgZ {P:Program} {N:Nat} (hm:P.follows .mixedOrders=true):∀ {c:Code} {top:Bool} {l:List Ann} {x:TCode×List Ann},zw top P N c l=some x->∀ {ro:Option Nat} {Y:z6a},(top=true->ro=none)->zE ro P Y N c x.1.erase:=by
 intro c
 induction c with
 | skip=>intro top l x h ro Y htop;simp [zw] at h;subst h;exact .skip
 | label b=>intro top l x h ro Y htop;simp [zw] at h;subst h;exact .label b
 | region id ops draw=>
   intro top l x h ro Y htop
   cases l with
   | nil=>simp [zw] at h
   | cons k l=>
     simp only [zw,Option.bind_eq_some_iff] at h
     obtain ⟨a,ha,h⟩:=h
     have ok:=zeh hm (c:=.region id ops draw) (top:=false) ha (ro:=ro) (Y:=Y) (by simp)
     cases a<;>simp only [reduceCtorEq,Option.some.injEq] at h
     · subst h
       exact zcY (a:=.region _ _) ok k
     · subst h
       exact zcY (a:=.regionX _ _ _ _ _ _) ok k
 | seq a b iha ihb=>
   intro top l x h ro Y htop
   simp only [zw,Option.bind_eq_some_iff,Option.some.injEq] at h
   obtain ⟨x,hx,y,hy,rfl⟩:=h
   exact .seq (iha hx htop) (ihb hy htop)
 | cond c a b iha ihb=>
   intro top l x h ro Y htop
   cases l with
   | nil=>simp [zw] at h
   | cons k l=>
     simp only [zw,Option.bind_eq_some_iff,Option.some.injEq] at h
     obtain ⟨c',hc,x,hx,y,hy,rfl⟩:=h
     exact zcY (a:=.cond c' x.1 y.1) (.cond hc (iha hx htop) (ihb hy htop)) k
 | block id a ih=>
   intro top l x h ro Y htop
   cases l with
   | nil=>simp [zw] at h
   | cons k l=>
     simp only [zw,Option.bind_eq_some_iff,Option.some.injEq] at h
     obtain ⟨x,hx,rfl⟩:=h
     exact zcY (a:=.block id x.1) (zE.block (ih hx htop)) k
 | loop a ih=>
   intro top l x h ro Y htop
   cases l with
   | nil=>simp [zw] at h
   | cons k l=>
     cases k with
     | none=>simp [zw] at h
     | some ks=>
       simp only [zw,Option.bind_eq_some_iff,Option.some.injEq] at h
       obtain ⟨x,hx,rfl⟩:=h
       exact (zE.loop ((ih hx htop).keepAfter _)).keepBefore _
 | scope a ih=>
   intro top l x h ro Y htop
   simp only [zw,Option.bind_eq_some_iff,Option.some.injEq] at h
   obtain ⟨x,hx,rfl⟩:=h
   exact .scope (ih hx htop)
 | exit id=>intro top l x h ro Y htop;simp [zw] at h;subst h;exact .exit id
 | ret=>intro top l x h ro Y htop;simp [zw] at h;subst h;exact .ret
 | rangeFunc g ps a b iha ihb=>
   intro top l x h ro Y htop
   cases top with
   | false=>simp [zw] at h;subst h;exact .stuck
   | true=>
     obtain rfl:=htop rfl
     simp only [zw,Option.bind_eq_some_iff] at h
     obtain ⟨g',hg,x,hx,y,hy,h⟩:=h
     split at h
     · rename_i hall
       cases h
       exact .range hg (λro=>iha hx (by simp)) (λro=>ihb hy (by simp)) (λi hi=>by simpa using List.all_eq_true.1 hall i hi)
     · cases h
 | _=>intro top l x h ro Y htop;simp [zw] at h;subst h;exact .stuck
theorem zY.of_funcT {P:Program} {Y:z6a} {f:Nat} {af:TFunc} {args:List AV} {σ:Mem} {Q:AV->Mem->Prop} {ks:List Ann} (hm:P.follows .mixedOrders=true) (hf:z8C P f ks=some af) (hlen:args.length<=af.N)
 (h:σ.Live->AW P Y af.body.erase (z6S af.res Q) (ziM args 0 .leaf) σ):zY P Y f args σ Q:=by
 simp only [z8C,Option.bind_eq_some_iff] at hf
 obtain ⟨fn,hfn,c,hc,hf⟩:=hf
 unfold z8C.ifO at hf
 split at hf
 · cases hf
 · rename_i hname
   simp only [Option.bind_eq_some_iff,Option.some.injEq] at hf
   obtain ⟨b,hb,r,hr,rfl⟩:=hf
   refine ⟨⟨fn,hfn,by simp [hc],hname⟩,λρ w args' st hl hY=>?_⟩
   exact (zY.of_body hfn hc hname (af:=⟨fn.ntmps,b.1.erase,r⟩) rfl hr (zgZ hm hb λ_=>rfl) hlen (h st.live)).2 ρ w args' st hl hY
/-! ### The condition -/
def zmB:List (Nat×Tag)->Nat->Tag
 | [],_=>.v
 | p::l,n=>selT (Nat.beq p.1 n) p.2 (zmB l n)
where selT (b:Bool) (x y:Tag):Tag:=
 match b with
 | true=>x
 | false=>y
def zqA (tg:Nat->Tag) (d:Option Nat) (v:AV) (t:Tmps) (K:Tmps->Prop):Prop:=
 match d with
 | none=>K t
 | some i=>zl7 (tg i) v λx=>K (Tr.put t i (some ((tg i).inj x)))
theorem zm3 {tg:Nat->Tag} {d:Option Nat} {v:AV} {t:Tmps} {K:Tmps->Prop} (h:zqA tg d v t K):K (Tmps.set t d v):=by
 cases d with
 | none=>exact h
 | some i=>
   obtain ⟨x,hx,h⟩:=zfh h
   rw [hx];exact h
def gS (t:Tmps) (g:Option (Nat×Bool)) (k0 k1:Tmps->Prop):Prop:=
 match g with
 | none=>k1 t
 | some (d,want)=>z4t (Tr.get t d) λv=>(match v with
   | .bool b=>ifB b (ifB want (k1 (Tr.put t d (some (.bool true)))) (k0 (Tr.put t d (some (.bool true)))))
    (ifB want (k0 (Tr.put t d (some (.bool false)))) (k1 (Tr.put t d (some (.bool false)))))
   | .tup []=>k0 t
   | _=>False)
def zgF (t:Tmps) (σ σ':Mem) (X:Prop):List (Nat×AOp)->Prop
 | []=>X
 | q::r=>fl1 t σ σ' (zgF t σ σ' X r) q.2
where
 fl1 (t:Tmps) (σ σ':Mem) (X:Prop) (op:AOp):Prop:=
  match op with
  | .load _ x=>evW x t λv=>sameW σ σ' v X
  | .lenMap x=>evW x t λv=>sameW σ σ' v X
  | .lookup _ _ _ x _=>evW x t λv=>sameW σ σ' v X
  | .conv c x=>(match c with
    | .bytesStr=>evW x t λv=>sameW σ σ' v X
    | _=>X)
  | _=>False
 sameW (σ σ':Mem) (v:AV) (X:Prop):Prop:=
  match v with
  | .ptr b _=>σ'.get b=σ.get b/\X
  | .slice b _ _ _=>σ'.get b=σ.get b/\X
  | .map b=>σ'.get b=σ.get b/\X
  | _=>X
theorem zkx {σ σ':Mem} {v:AV} {X:Prop} (h:zgF.sameW σ σ' v X):(match v with | .ptr b _=>σ'.get b=σ.get b | .slice b _ _ _=>σ'.get b=σ.get b | .map b=>σ'.get b=σ.get b | _=>True)/\X:=by
 cases v<;>first | exact h | exact ⟨trivial,h⟩
theorem zo5 {t:Tmps} {σ σ':Mem} {X:Prop} {op:AOp} (h:zgF.fl1 t σ σ' X op):zjw t σ σ' op/\X:=by
 have key:∀ {x:AOpd},(evW x t λv=>zgF.sameW σ σ' v X)->(match x.ev t with
  | some (.ptr b _)=>σ'.get b=σ.get b
  | some (.slice b _ _ _)=>σ'.get b=σ.get b
  | some (.map b)=>σ'.get b=σ.get b
  | _=>True)/\X:=by
  intro x h
  obtain ⟨v,hv,h⟩:=z3D h
  rw [hv]
  obtain ⟨h1,h2⟩:=zkx h
  refine ⟨?_,h2⟩
  cases v<;>first | exact h1 | trivial
 cases op<;>first | exact h.elim | exact key h | skip
 rename_i c x
 cases c<;>first | exact key h | exact ⟨rfl,h⟩
theorem zh9 {t:Tmps} {σ σ':Mem} {X:Prop}:∀ {l:List (Nat×AOp)},zgF t σ σ' X l->zj6 t σ σ' l/\X
 | [],h=>⟨trivial,h⟩
 | _::_,h=>by
   obtain ⟨h1,h2⟩:=zo5 h
   obtain ⟨h3,h4⟩:=zh9 h2
   exact ⟨⟨h1,h3⟩,h4⟩
def z15 (σ:Mem) (id:Nat) (b:Blk) (K:Mem->Prop):Prop:=K (σ.put id (some b))
def z5 (P:Program) (f:Nat) (args:List AV) (σ:Mem) (K:AV->Mem->Prop):Prop:=z1 P f args σ K
def zf3 (P:Program) (Y:z6a) (v:AV) (args:List AV) (σ:Mem) (K:AV->Mem->Prop):Prop:=
 match v with
 | .func f c=>z1 P f (args++c) σ K
 | .yld b=>(match Y b with
   | some T=>∃ K',T args σ K'/\∀ v σ',K' v σ'->K v σ'
   | none=>False)
 | _=>False
def zpf:List Nat->List AV->Tmps->(Tmps->Prop)->Prop
 | [],l,t,K=>(match l with
   | []=>K t
   | _::_=>False)
 | i::is,l,t,K=>(match l with
   | []=>False
   | v::vs=>zpf is vs (Tr.put t i (some v)) K)
def arg1W (l:List AV) (K:AV->Prop):Prop:=
 match l with
 | []=>False
 | v::vs=>(match vs with
   | []=>K v
   | _::_=>False)
def zma (P:Program) (v:AV) (T:YT) (σ:Mem) (K:Mem->Prop):Prop:=
 match v with
 | .func f c=>zY P (zll σ.next T) f (.yld σ.next::c) (σ.bump 1) λ_ σ'=>K σ'
 | _=>False
def z3m (P:Program) (v:AV) (args:List AV) (σ:Mem) (K:AV->Mem->Prop):Prop:=zf3 P noY v args σ K
def znz (P:Program) (Y:z6a) (id:Nat) (op:AOp) (t:Tmps) (σ:Mem) (k:AV->Mem->Prop):Prop:=
 match op with
 | .call f xs=>zoM xs t λl=>z5 P f l σ k
 | .callv x xs=>evW x t λv=>zoM xs t λl=>zf3 P Y v l σ k
 | op=>ifB op.eff (zqg id op t σ k) (zpD id op t σ (λv=>k v σ) λv b=>z15 σ id b λσ'=>k v σ')
def znV (P:Program) (Y:z6a) (tg:Nat->Tag) (base:Nat) (K:Tmps->Mem->Prop):List RegE->Tmps->Mem->Prop
 | [],t,σ=>K t σ
 | p::rest,t,σ=>gS t p.o.g (λt=>znV P Y tg base K rest (Tmps.set t p.o.d (.tup [])) σ)
  (λt=>znz P Y (base+p.i) p.o.op t σ λv σ'=>zgF t σ σ' (zqA tg p.o.d v t λt=>znV P Y tg base K rest t σ') p.fl)
def zlx (K:Tmps->Mem->Prop) (Q:z0n):z0n
 | .normal,t,σ=>K t σ
 | e,t,σ=>Q e t σ
def inS (id:Nat) (Q:z0n):z0n
 | .exit id',t,σ=>ifB (Nat.beq id' id) (Q .normal t σ) (Q (.exit id') t σ)
 | e,t,σ=>Q e t σ
def zps (tg:Nat->Tag):(ks:List Nat)->Tmps->Fn (ks.map tg)->Mem->Prop
 | [],_,k,σ=>k σ
 | i::ks,t,k,σ=>z4t (Tr.get t i) λv=>zl7 (tg i) v λx=>zps tg ks t (k x) σ
def zqn (tg:Nat->Tag) (t0:Tmps):(ks:List Nat)->(Tmps->Mem->Prop)->Fn (ks.map tg)
 | [],G=>λσ=>G t0 σ
 | i::ks,G=>λx=>zqn tg t0 ks λt σ=>G (Tr.put t i (some ((tg i).inj x))) σ
def inL (l:List Nat) (n:Nat):Bool:=
 match l with
 | []=>false
 | m::l=>(match Nat.beq m n with
   | true=>true
   | false=>inL l n)
def zii {α:Type} (f:α->Bool):List α->Bool
 | []=>true
 | a::l=>(match f a with
   | true=>zii f l
   | false=>false)
def zpg (a b:Bool):Bool:=
 match a with
 | true=>b
 | false=>false
def zet (cs:List Nat) (p:RegE):Bool:=
 match p.o.d with
 | none=>true
 | some d=>(match inL cs d with
   | true=>false
   | false=>true)
def keeps (cs:List Nat):TCode->Bool
 | .skip=>true
 | .region _ ops=>zii (zet cs) ops
 | .seq a b=>zpg (keeps cs a) (keeps cs b)
 | .cond _ a b=>zpg (keeps cs a) (keeps cs b)
 | .block _ a=>keeps cs a
 | .loop cs' ks a=>zpg (zii (λc=>inL (ks++cs') c) cs) (keeps cs a)
 | .exit _=>true
 | .ret=>true
 | .scope a=>keeps cs a
 | .join cs' ks a=>zpg (zii (λc=>inL (ks++cs') c) cs) (keeps cs a)
 | .range ..=>true
 | .regionX _ ops p q _ _=>zpg (zii (zet cs) ops) (zpg (zet cs p) (zet cs q))
 | .stuck=>true
def zqr (K:AV->Mem->Prop):z0n
 | .normal,_,σ=>K (.bool true) σ
 | _,_,_=>False
def noS:z0n:=λ_ _ _=>False
def sem (P:Program) (tg:Nat->Tag) (Y:z6a):TCode->z0n->Tmps->Mem->Prop
 | .skip,Q,t,σ=>Q .normal t σ
 | .region n ops,Q,t,σ=>znV P Y tg σ.next (λt σ=>Q .normal t σ) ops t (σ.bump n)
 | .seq x y,Q,t,σ=>sem P tg Y x (zlx (λt σ=>sem P tg Y y Q t σ) Q) t σ
 | .cond c x y,Q,t,σ=>evW c t λv=>(match v with
   | .bool b=>ifB b (sem P tg Y x Q t σ) (sem P tg Y y Q t σ)
   | _=>False)
 | .block id x,Q,t,σ=>sem P tg Y x (inS id Q) t σ
 | .loop cs ks x,Q,t,σ=>ifB (keeps cs x) (zps tg ks t (zj (ks.map tg) λnext=>zqn tg (Tmps.keep t cs) ks λt σ=>sem P tg Y x (zlx (λt' σ'=>zps tg ks t' next σ') Q) t σ) σ) False
 | .exit id,Q,t,σ=>Q (.exit id) t σ
 | .ret,Q,t,σ=>Q .ret t σ
 | .scope x,Q,t,σ=>sem P tg Y x Q t σ
 | .join cs ks x,Q,t,σ=>ifB (keeps cs x) (zd (ks.map tg) (λk=>sem P tg Y x (zlx (λt' σ'=>zps tg ks t' k σ') Q) t σ) (zqn tg (Tmps.keep t cs) ks λt σ=>Q .normal t σ)) False
 | .range g ps a b,Q,t,σ=>evW g t λv=>zma P v (λargs σ' K=>zpf ps args t λt'=>sem P tg noY a (zlx (λt1 σ1=>sem P tg noY b (zqr K) t1 σ1) noS) t' σ') σ λσ'=>Q .normal t σ'
 | .regionX n ops p q fq fp,Q,t,σ=>znV P Y tg σ.next (λt' σ'=>znV P Y tg σ.next (λt σ=>Q .normal t σ) [p,q] t' σ'/\znV P Y tg σ.next (λt σ=>Q .normal t σ) [⟨q.i,q.o,fq⟩,⟨p.i,p.o,fp⟩] t' σ') ops t (σ.bump n)
 | .stuck,_,_,_=>False
/-! ### It is right -/
def mkK (tg:Nat->Tag) (t0:Tmps):(ks:List Nat)->Ar (ks.map tg)->Tmps
 | [],_=>t0
 | i::ks,a=>Tr.put (mkK tg t0 ks a.2) i (some ((tg i).inj a.1))
theorem zbk {tg:Nat->Tag} {cs:List Nat}:∀ {ks:List Nat} {t:Tmps} {k:Fn (ks.map tg)} {σ:Mem},zps tg ks t k σ->∃ a:Ar (ks.map tg),Tmps.keep t (ks++cs)=mkK tg (Tmps.keep t cs) ks a/\Fn.ap (ks.map tg) k a σ
 | [],t,k,σ,h=>⟨(),rfl,h⟩
 | i::ks,t,k,σ,h=>by
   obtain ⟨v,hv,h⟩:=zn h
   obtain ⟨x,hx,h⟩:=zfh h
   obtain ⟨a,ha,h⟩:=zbk (ks:=ks) h
   refine ⟨(x,a),?_,h⟩
   rw [List.cons_append,Tmps.keep,hv,hx,ha];rfl
theorem zj1 {tg:Nat->Tag} {t0:Tmps}:∀ {ks:List Nat} {G:Tmps->Mem->Prop} {a:Ar (ks.map tg)} {σ:Mem},Fn.ap (ks.map tg) (zqn tg t0 ks G) a σ->G (mkK tg t0 ks a) σ
 | [],G,a,σ,h=>h
 | i::ks,G,a,σ,h=>zj1 (ks:=ks) (G:=λt σ=>G (Tr.put t i (some ((tg i).inj a.1))) σ) h
theorem zdl {n:Nat}:∀ {l:List Nat},inL l n=true↔n∈l
 | []=>by simp [inL]
 | m::l=>by
   unfold inL
   cases h:Nat.beq m n with
   | true=>have:=Nat.eq_of_beq_eq_true h;subst this;simp
   | false=>
     have hne:n≠m:=λe=>by subst e;rw [show Nat.beq n n=true from by simp] at h;cases h
     simp [zdl (l:=l),hne]
theorem zgt {α:Type} {f:α->Bool}:∀ {l:List α},zii f l=true->∀ a∈l,f a=true
 | [],_,a,h=>by simp at h
 | b::l,h,a,ha=>by
   unfold zii at h
   split at h
   · rename_i hb
     rcases List.mem_cons.1 ha with rfl | ha
     · exact hb
     · exact zgt h a ha
   · cases h
theorem ziR {α:Type} {f:α->Bool}:∀ {l:List α},(∀ a∈l,f a=true)->zii f l=true
 | [],_=>rfl
 | b::l,h=>by
   unfold zii
   rw [h b (by simp)]
   exact ziR λa ha=>h a (by simp [ha])
theorem z9j {a b:Bool} (h:zpg a b=true):a=true/\b=true:=by
 cases a
 · cases h
 · exact ⟨rfl,h⟩
def Agree (cs:List Nat) (t t':Tmps):Prop:=∀ c∈cs,Tr.get t' c=Tr.get t c
theorem Agree.refl (cs:List Nat) (t:Tmps):Agree cs t t:=λ_ _=>rfl
theorem Agree.trans {cs:List Nat} {t t' t'':Tmps} (h:Agree cs t t') (h':Agree cs t' t''):Agree cs t t'':=λc hc=>(h' c hc).trans (h c hc)
theorem Tmps.get_keep_mem (t:Tmps):∀ (ks:List Nat) (c:Nat),c∈ks->Tr.get (Tmps.keep t ks) c=Tr.get t c
 | [],c,h=>by simp at h
 | k::ks,c,h=>by
   rw [Tmps.keep,Tr.get_put]
   split
   · rename_i e;rw [e]
   · rename_i e
     rcases List.mem_cons.1 h with h | h
     · exact absurd h e
     · exact Tmps.get_keep_mem t ks c h
theorem Agree.keep {cs ks:List Nat} (h:zii (λc=>inL ks c) cs=true) (t:Tmps):Agree cs t (Tmps.keep t ks):=
 λc hc=>Tmps.get_keep_mem t ks c (zdl.1 (zgt h c hc))
theorem Agree.keep_eq {t t':Tmps}:∀ {cs:List Nat},Agree cs t t'->Tmps.keep t' cs=Tmps.keep t cs
 | [],_=>rfl
 | c::cs,h=>by
   rw [Tmps.keep,Tmps.keep,h c (by simp),Agree.keep_eq (cs:=cs) λd hd=>h d (by simp [hd])]
theorem Agree.set {cs:List Nat} {p:RegE} (h:zet cs p=true) (t:Tmps) (v:AV):Agree cs t (Tmps.set t p.o.d v):=by
 unfold zet at h
 intro c hc
 cases hd:p.o.d with
 | none=>rfl
 | some d=>
   rw [hd] at h
   simp only at h
   split at h
   · cases h
   · rename_i hn
     have hne:c≠d:=λe=>by subst e;rw [zdl.2 hc] at hn;cases hn
     exact Tr.get_put_ne t hne _
theorem z4M.frame {P:Program} {Y:z6a} {base:Nat} {cs:List Nat}:∀ {l:List RegE} {K:Tmps->Mem->Prop} {t t0:Tmps} {σ:Mem},zii (zet cs) l=true->Agree cs t0 t->z4M P Y base K l t σ->z4M P Y base (λt' σ'=>K t' σ'/\Agree cs t0 t') l t σ
 | [],K,t,t0,σ,_,ha,h=>⟨h,ha⟩
 | p::l,K,t,t0,σ,hf,ha,h=>by
   have h1:=zgt hf p (by simp)
   have h2:zii (zet cs) l=true:=by
    unfold zii at hf
    rw [h1] at hf;exact hf
   simp only [z4M] at h ⊢
   split at h
   · exact z24.mono h λv σ' hk=>⟨hk.1,z4M.frame h2 (ha.trans (.set h1 t v)) hk.2⟩
   · exact z4M.frame h2 (ha.trans (.set h1 t _)) h
   · exact h.elim
theorem AW.frame {P:Program} {Y:z6a} {cs:List Nat}:∀ {x:TCode} {Q:z0n} {t t0:Tmps} {σ:Mem},keeps cs x=true->Agree cs t0 t->AW P Y x.erase Q t σ->AW P Y x.erase (λe t' σ'=>Q e t' σ'/\Agree cs t0 t') t σ:=by
 intro x
 induction x with
 | skip=>exact λ_ ha h=>⟨h,ha⟩
 | region n ops=>exact λhf ha h=>z4M.frame hf ha h
 | seq a b iha ihb=>
   intro Q t t0 σ hf ha h
   obtain ⟨h1,h2⟩:=z9j hf
   show AW P Y a.erase (z0n.then (λt1 σ1=>AW P Y b.erase (λe t' σ'=>Q e t' σ'/\Agree cs t0 t') t1 σ1) (λe t' σ'=>Q e t' σ'/\Agree cs t0 t')) t σ
   refine AW.mono (λe t1 σ1 _ hq=>?_) (iha h1 ha (show AW P Y a.erase _ t σ from h))
   obtain ⟨hq,ha1⟩:=hq
   cases e with
   | normal=>exact ihb h2 ha1 hq
   | _=>exact ⟨hq,ha1⟩
 | cond c a b iha ihb=>
   intro Q t t0 σ hf ha h
   obtain ⟨h1,h2⟩:=z9j hf
   simp only [TCode.erase,AW] at h ⊢
   split at h
   · exact ⟨λe=>iha h1 ha (h.1 e),λe=>ihb h2 ha (h.2 e)⟩
   · exact h.elim
 | block id a ih=>
   intro Q t t0 σ hf ha h
   show AW P Y a.erase (z0n.inBlock id λe t' σ'=>Q e t' σ'/\Agree cs t0 t') t σ
   refine AW.mono (λe t1 σ1 _ hq=>?_) (ih hf ha (show AW P Y a.erase _ t σ from h))
   obtain ⟨hq,ha1⟩:=hq
   cases e with
   | exit id'=>
     simp only [z0n.inBlock] at hq ⊢
     split
     · rename_i e;rw [if_pos e] at hq;exact ⟨hq,ha1⟩
     · rename_i e;rw [if_neg e] at hq;exact ⟨hq,ha1⟩
   | _=>exact ⟨hq,ha1⟩
 | loop cs' ks a ih=>
   intro Q t t0 σ hf ha h
   obtain ⟨h1,h2⟩:=z9j hf
   obtain ⟨I,μ,h0,hI⟩:=(show AW P Y (.loop (.seq a.erase (.forget (ks++cs')))) Q (Tmps.keep t (ks++cs')) σ from h)
   show AW P Y (.loop (.seq a.erase (.forget (ks++cs')))) _ (Tmps.keep t (ks++cs')) σ
   refine ⟨λt σ=>I t σ/\Agree cs t0 t,μ,⟨h0,ha.trans (.keep h1 t)⟩,λt1 σ1 hi=>?_⟩
   have hb:=hI t1 σ1 hi.1
   show AW P Y a.erase (z0n.then (λt2 σ2=>AW P Y (.forget (ks++cs')) (z0n.then (λt' σ'=>(I t' σ'/\Agree cs t0 t')/\μ t' σ'<μ t1 σ1) λe t' σ'=>Q e t' σ'/\Agree cs t0 t') t2 σ2)
    (z0n.then (λt' σ'=>(I t' σ'/\Agree cs t0 t')/\μ t' σ'<μ t1 σ1) λe t' σ'=>Q e t' σ'/\Agree cs t0 t')) t1 σ1
   refine AW.mono (λe t2 σ2 _ hq=>?_) (ih h2 hi.2 (show AW P Y a.erase _ t1 σ1 from hb))
   obtain ⟨hq,ha2⟩:=hq
   cases e with
   | normal=>exact ⟨⟨hq.1,ha2.trans (.keep h1 t2)⟩,hq.2⟩
   | _=>exact ⟨hq,ha2⟩
 | exit id=>exact λ_ ha h=>⟨h,ha⟩
 | ret=>exact λ_ ha h=>⟨h,ha⟩
 | scope a ih=>exact λhf ha h=>ih hf ha h
 | join cs' ks a ih=>
   intro Q t t0 σ hf ha h
   obtain ⟨h1,h2⟩:=z9j hf
   show AW P Y a.erase (z0n.then (λt1 σ1=>AW P Y (.forget (ks++cs')) (λe t' σ'=>Q e t' σ'/\Agree cs t0 t') t1 σ1) (λe t' σ'=>Q e t' σ'/\Agree cs t0 t')) t σ
   refine AW.mono (λe t1 σ1 _ hq=>?_) (ih h2 ha (show AW P Y a.erase _ t σ from h))
   obtain ⟨hq,ha1⟩:=hq
   cases e with
   | normal=>exact ⟨hq,ha1.trans (.keep h1 t1)⟩
   | _=>exact ⟨hq,ha1⟩
 | range g ps a b _ _=>
   intro Q t t0 σ _ ha h
   simp only [TCode.erase,AW] at h ⊢
   split at h
   · exact zY.mono h λ_ σ' hq=>⟨hq,ha⟩
   · exact h.elim
 | regionX n ops p q fq fp=>
   intro Q t t0 σ hf ha h
   obtain ⟨h1,h2⟩:=z9j hf
   obtain ⟨h2,h3⟩:=z9j h2
   have two:∀ (a b:RegE),zet cs a=true->zet cs b=true->zii (zet cs) [a,b]=true:=by
    intro a b ha hb
    simp only [zii,ha,hb]
   refine z4M.mono (λt1 σ1 hq=>?_) (z4M.frame h1 ha (show z4M P Y σ.next _ ops t (σ.bump n) from h))
   exact ⟨z4M.frame (two p q h2 h3) hq.2 hq.1.1,z4M.frame (two ⟨q.i,q.o,fq⟩ ⟨p.i,p.o,fp⟩ h3 h2) hq.2 hq.1.2⟩
 | stuck=>exact λ_ _ h=>h
section
variable {P:Program} {tg:Nat->Tag} {t:Tmps} {σ:Mem}
theorem zko {Y:z6a} {id:Nat} {op:AOp} {k k':AV->Mem->Prop} (hk:∀ v σ,k v σ->k' v σ) (h:znz P Y id op t σ k):z24 P Y id op t σ k':=by
 have other:op.isCall=false->z24 P Y id op t σ k':=by
  intro hno
  have e1:znz P Y id op t σ k=ifB op.eff (zqg id op t σ k) (zpD id op t σ (λv=>k v σ) λv b=>z15 σ id b λσ'=>k v σ'):=by
   cases op<;>first | rfl | cases hno
  have e2:z24 P Y id op t σ k'=(if op.eff then (match eop id op t σ with
   | some r=>k' r.1 r.2
   | none=>False)
   else match nop id op t σ with
    | some r=>k' r.1 (σ.add id r.2)
    | none=>False):=by
   cases op<;>first | rfl | cases hno
  rw [e1] at h
  rw [e2]
  cases he:op.eff with
  | true=>
    rw [he] at h
    obtain ⟨r,hr,h⟩:=zms (show zqg id op t σ k from h)
    rw [if_pos rfl,hr]
    exact hk _ _ h
  | false=>
    rw [he] at h
    obtain ⟨⟨v,ob⟩,hr,h⟩:=zna (show zpD id op t σ (λv=>k v σ) (λv b=>z15 σ id b λσ'=>k v σ') from h)
    rw [if_neg (by simp),hr]
    cases ob with
    | none=>exact hk _ _ h
    | some b=>exact hk _ _ h
 cases op
 case call f xs=>
  obtain ⟨l,hl,h⟩:=zaN h
  simp only [z24,hl]
  exact z1.mono h hk
 case callv x xs=>
  obtain ⟨v,hv,h⟩:=z3D h
  obtain ⟨l,hl,h⟩:=zaN h
  cases v with
  | func f c=>
    simp only [z24,hv,hl]
    exact z1.mono h hk
  | yld b=>
    simp only [zf3] at h
    simp only [z24,hv,hl]
    cases hY:Y b with
    | none=>rw [hY] at h;exact h.elim
    | some T=>
      rw [hY] at h
      obtain ⟨K',h1,h2⟩:=h
      exact ⟨K',h1,λv σ' h=>hk _ _ (h2 v σ' h)⟩
  | _=>exact h.elim
 all_goals exact other rfl
theorem z4I {Y:z6a} {base:Nat} {K:Tmps->Mem->Prop}:∀ {l:List RegE} {t:Tmps} {σ:Mem},znV P Y tg base K l t σ->z4M P Y base K l t σ
 | [],t,σ,h=>h
 | p::l,t,σ,h=>by
   simp only [znV] at h
   simp only [z4M]
   have step:∀ {t:Tmps},(znz P Y (base+p.i) p.o.op t σ λv σ'=>zgF t σ σ' (zqA tg p.o.d v t λt=>znV P Y tg base K l t σ') p.fl) ->
    z24 P Y (base+p.i) p.o.op t σ λv σ'=>Floats base t σ σ' p.fl/\z4M P Y base K l (Tmps.set t p.o.d v) σ':=by
    intro t h
    refine zko (λv σ' h=>?_) h
    obtain ⟨h1,h2⟩:=zh9 h
    exact ⟨zcp h1,z4I (zm3 h2)⟩
   unfold gS at h
   unfold gval
   have same:∀ {d:Nat} {b:Bool},Tr.get t d=some (.bool b)->Tr.put t d (some (.bool b))=t:=λh=>Tr.put_same h
   split at h
   · rename_i hg;rw [hg];exact step h
   · rename_i d want hg
     rw [hg]
     simp only
     obtain ⟨v,hb,h⟩:=zn h
     rw [hb]
     split at h
     · rename_i b
       simp only
       cases b<;>cases want<;>simp only [ifB] at h<;>rw [same hb] at h
       · exact step h
       · exact z4I h
       · exact z4I h
       · exact step h
     · exact z4I h
     · exact h.elim
theorem zjp {K K':Tmps->Mem->Prop} {Q Q':z0n} (hK:∀ t σ,K t σ->K' t σ) (hQ:∀ e t σ,(∀ l,e≠.goto l)->Q e t σ->Q' e t σ) (e:Exit) (t:Tmps) (σ:Mem) (he:∀ l,e≠.goto l) (h:zlx K Q e t σ):z0n.then K' Q' e t σ:=by
 cases e with
 | normal=>exact hK _ _ h
 | _=>exact hQ _ _ _ he h
theorem zY.weak {P:Program} {b f:Nat} {T T':YT} {args:List AV} {σ:Mem} {Q:AV->Mem->Prop} (h:zY P (zll b T) f args σ Q) (hT:∀ args σ K,T args σ K->T' args σ K):zY P (zll b T') f args σ Q:=by
 refine ⟨h.1,λρ w args' st hl hY=>h.2 ρ w args' st hl ?_⟩
 intro b' T1 hb
 unfold zll at hb
 split at hb
 · rename_i e
   injection hb with hb
   subst hb
   obtain ⟨l,o,m,r,h1,h2,h3⟩:=hY b' T' (by unfold zll;rw [if_pos e])
   exact ⟨l,o,m,r,h1,h2,λρ1 σ1 w1 a a' K e1 e2 e3 e4 e5=>h3 ρ1 σ1 w1 a a' K e1 e2 e3 e4 (hT _ _ _ e5)⟩
 · cases hb
theorem zf6:∀ {ps:List Nat} {args:List AV} {t:Tmps} {K:Tmps->Prop},zpf ps args t K->args.length=ps.length/\K (Tmps.fill t ps args)
 | [],[],_,_,h=>⟨rfl,h⟩
 | [],_::_,_,_,h=>h.elim
 | _::_,[],_,_,h=>h.elim
 | i::is,v::vs,t,K,h=>by
   obtain ⟨h1,h2⟩:=zf6 (ps:=is) (args:=vs) h
   exact ⟨by simp [h1],h2⟩
theorem zkh:∀ {c:TCode} {Y:z6a} {Q Q':z0n} {t:Tmps} {σ:Mem},(∀ e t σ,(∀ l,e≠.goto l)->Q e t σ->Q' e t σ)->sem P tg Y c Q t σ->AW P Y c.erase Q' t σ:=by
 intro c
 induction c with
 | skip=>exact λhQ h=>hQ _ _ _ (by simp) h
 | region n ops=>exact λhQ h=>z4M.mono (λt σ h=>hQ _ _ _ (by simp) h) (z4I (P:=P) (tg:=tg) h)
 | seq x y ihx ihy=>exact λhQ h=>ihx (zjp (λt σ h=>ihy hQ h) hQ) h
 | cond c x y ihx ihy=>
   intro Y Q Q' t σ hQ h
   obtain ⟨v,hv,h⟩:=z3D h
   simp only [TCode.erase,AW,hv]
   cases v with
   | bool b=>cases b with
     | true=>exact ⟨λ_=>ihx hQ h,λe=>by cases e⟩
     | false=>exact ⟨λe=>(by cases e),λ_=>ihy hQ h⟩
   | _=>exact h.elim
 | block id x ih=>
   intro Y Q Q' t σ hQ h
   refine ih (λe t σ he h=>?_) h
   cases e with
   | exit id'=>
     simp only [inS,z0n.inBlock] at h ⊢
     by_cases hid:id'=id
     · subst hid
       rw [if_pos rfl]
       rw [show Nat.beq id' id'=true from by simp] at h
       exact hQ _ _ _ (by simp) h
     · rw [if_neg hid]
       rw [show Nat.beq id' id=false from Bool.eq_false_iff.2 λe=>hid (Nat.eq_of_beq_eq_true e)] at h
       exact hQ _ _ _ (by simp) h
   | _=>exact hQ _ _ _ he h
 | loop cs ks x ih=>
   intro Y Q Q' t σ hQ h
   obtain ⟨hkeep,h⟩:=z5c h
   obtain ⟨a,ha,h⟩:=zbk (cs:=cs) h
   rw [zj,Fn.ap_lam] at h
   obtain ⟨ι,I,μ,i0,h0,hI⟩:=h
   show AW P Y (.loop (.seq x.erase (.forget (ks++cs)))) Q' (Tmps.keep t (ks++cs)) σ
   refine AW.loop (ι:=ι) (λi t1 σ=>(∃ a,t1=mkK tg (Tmps.keep t cs) ks a/\I i a σ)/\Agree cs t t1) μ i0 ⟨⟨a,ha,h0⟩,.keep ?_ t⟩ ?_
   · exact ziR λc hc=>zdl.2 (by simp [hc])
   rintro i t1 σ1 ⟨⟨a1,rfl,h1⟩,hag⟩
   have hb:=zj1 (hI i a1 σ1 h1)
   show AW P Y x.erase (z0n.then (λt2 σ=>AW P Y (.forget (ks++cs)) (z0n.then (λt' σ'=>∃ j,((∃ a,t'=mkK tg (Tmps.keep t cs) ks a/\I j a σ')/\Agree cs t t')/\μ j<μ i) Q') t2 σ) (z0n.then (λt' σ'=>∃ j,((∃ a,t'=mkK tg (Tmps.keep t cs) ks a/\I j a σ')/\Agree cs t t')/\μ j<μ i) Q')) (mkK tg (Tmps.keep t cs) ks a1) σ1
   refine AW.mono (λe t2 σ2 he hq=>?_) (AW.frame hkeep hag (ih (λe t2 σ2 he h=>h) hb))
   obtain ⟨h,ha2⟩:=hq
   cases e with
   | normal=>
     obtain ⟨a2,e2,h2⟩:=zbk (cs:=cs) (show zps tg ks t2 _ σ2 from h)
     rw [Fn.ap_lam] at h2
     obtain ⟨j,hj,hlt⟩:=h2
     refine ⟨j,⟨⟨a2,?_,hj⟩,ha2.trans (.keep (ziR λc hc=>zdl.2 (by simp [hc])) t2)⟩,hlt⟩
     rw [e2,ha2.keep_eq]
   | _=>exact hQ _ _ _ he h
 | exit id=>exact λhQ h=>hQ _ _ _ (by simp) h
 | ret=>exact λhQ h=>hQ _ _ _ (by simp) h
 | scope x ih=>exact λhQ h=>ih hQ h
 | join cs ks x ih=>
   intro Y Q Q' t σ hQ h
   obtain ⟨hkeep,h⟩:=z5c h
   obtain ⟨R,h1,h2⟩:=h
   show AW P Y x.erase (z0n.then (λt1 σ1=>AW P Y (.forget (ks++cs)) Q' t1 σ1) Q') t σ
   refine AW.mono (λe t2 σ2 he hq=>?_) (AW.frame hkeep (.refl cs t) (ih (λe t2 σ2 he h=>h) h1))
   obtain ⟨h,ha2⟩:=hq
   cases e with
   | normal=>
     obtain ⟨a2,e2,h3⟩:=zbk (cs:=cs) (show zps tg ks t2 R σ2 from h)
     have:=zj1 (h2 a2 σ2 h3)
     refine hQ _ _ _ (by simp) ?_
     show Q .normal (Tmps.keep t2 (ks++cs)) σ2
     rw [e2,ha2.keep_eq];exact this
   | _=>exact hQ _ _ _ he h
 | range g ps a b iha ihb=>
   intro Y Q Q' t σ hQ h
   obtain ⟨v,hv,h⟩:=z3D h
   simp only [TCode.erase,AW,hv]
   cases v<;>first | exact h.elim | skip
   refine zY.mono (zY.weak h λargs σ' K hT=>?_) λ_ σ' hq=>hQ _ _ _ (by simp) hq
   obtain ⟨h1,h2⟩:=zf6 hT
   refine ⟨h1,iha (zjp (λt1 σ1 h3=>ihb (λe t2 σ2 _ h4=>?_) h3) λe t1 σ1 _ h3=>h3) h2⟩
   cases e<;>first | exact h4 | exact h4.elim
 | regionX n ops p q fq fp=>
   intro Y Q Q' t σ hQ h
   refine z4M.mono (λt1 σ1 h=>?_) (z4I (P:=P) (tg:=tg) h)
   exact ⟨z4M.mono (λt σ h=>hQ _ _ _ (by simp) h) (z4I (P:=P) (tg:=tg) h.1),z4M.mono (λt σ h=>hQ _ _ _ (by simp) h) (z4I (P:=P) (tg:=tg) h.2)⟩
 | stuck=>exact λhQ h=>h
def zoE (t:Tmps) (σ:Mem):List ARes->(List AV->Prop)->Prop
 | [],k=>k []
 | .tmp i::l,k=>z4t (Tr.get t i) λv=>zoE t σ l λvs=>k (v::vs)
 | .cell i q::l,k=>z4t (Tr.get t i) λp=>(match q with
   | none=>ldW σ p λv=>zoE t σ l λvs=>k (v::vs)
   | some n=>z5x n σ p λv=>zoE t σ l λvs=>k (v::vs))
theorem z8K:∀ {l:List ARes} {k:List AV->Prop},zoE t σ l k->∃ r,evr t σ l=some r/\k r
 | [],k,h=>⟨[],rfl,h⟩
 | .tmp i::l,k,h=>by
   obtain ⟨v,hv,h⟩:=zn h
   obtain ⟨r,hr,h⟩:=z8K h
   exact ⟨v::r,by simp [evr,ARes.ev,hv,hr],h⟩
 | .cell i q::l,k,h=>by
   obtain ⟨v,hv,h⟩:=zn h
   cases q with
   | none=>
     simp only [ldW] at h
     cases v<;>first | exact h.elim | skip
     obtain ⟨a,ha,h⟩:=zn h
     obtain ⟨r,hr,h⟩:=z8K h
     exact ⟨a::r,by simp [evr,ARes.ev,hv,zfm ha,hr],h⟩
   | some n=>
     simp only [z5x] at h
     cases v<;>first | exact h.elim | skip
     obtain ⟨c,hc,h⟩:=zn h
     obtain ⟨r,hr,h⟩:=z8K h
     exact ⟨.agg c::r,by simp [evr,ARes.ev,hv,hc,hr],h⟩
def zpT (res:List ARes) (Q:AV->Mem->Prop):z0n
 | .normal,t,σ=>zoE t σ res λl=>Q (zie l) σ
 | .ret,t,σ=>zoE t σ res λl=>Q (zie l) σ
 | _,_,_=>False
theorem zhM {res:List ARes} {Q:AV->Mem->Prop} (e:Exit) (t:Tmps) (σ:Mem) (h:zpT res Q e t σ):z6S res Q e t σ:=by
 cases e with
 | normal=>
   obtain ⟨r,hr,h⟩:=z8K (show zoE t σ res _ from h)
   simp only [z6S,hr];exact h
 | ret=>
   obtain ⟨r,hr,h⟩:=z8K (show zoE t σ res _ from h)
   simp only [z6S,hr];exact h
 | _=>exact h.elim
def zqK (P:Program) (f:Nat) (ks:List Ann) (tg:List (Nat×Tag)) (args:List AV) (σ:Mem) (Q:AV->Mem->Prop):Prop:=
 match z8C P f ks with
 | none=>False
 | some af=>ifB (Nat.ble args.length af.N) (sem P (zmB tg) noY af.body (zpT af.res Q) (ziM args 0 .leaf) σ) False
def znU (P:Program) (f:Nat):Bool:=
 match P.funcs[f]? with
 | none=>false
 | some fn => fn.body.isSome && !(fn.name == "runtime.NumGoroutine")
theorem z9h {f:Nat} (h:znU P f=true):zqk P f:=by
 unfold znU at h
 split at h
 · cases h
 · rename_i fn hf
   simp only [Bool.and_eq_true,Bool.not_eq_true'] at h
   exact ⟨fn,hf,by cases hb:fn.body<;>simp_all,h.2⟩
theorem z1.of_sem {f:Nat} {args:List AV} {Q:AV->Mem->Prop} (ks:List Ann) (tg:List (Nat×Tag)) {X:Prop} (hm:P.follows .mixedOrders=true) (hf:znU P f=true) (he:zqK P f ks tg args σ Q=X) (h:σ.Live->X):z1 P f args σ Q:=by
 unfold zqK at he
 split at he
 · refine ⟨z9h hf,λρ w args' st hl=>?_⟩
   exact (he.mpr (h st.live):False).elim
 · rename_i af haf
   cases hb:Nat.ble args.length af.N with
   | true=>
     rw [hb] at he
     exact (zY.of_funcT hm haf (Nat.le_of_ble_eq_true hb) λhl=>zkh (λe t σ _ h=>zhM e t σ h) (show sem P (zmB tg) noY af.body (zpT af.res Q) (ziM args 0 .leaf) σ from he.mpr (h hl))).plain
   | false=>
     rw [hb] at he
     refine ⟨z9h hf,λρ w args' st hl=>?_⟩
     exact (he.mpr (h st.live):False).elim
def zqL (P:Program) (Y:z6a) (f:Nat) (ks:List Ann) (tg:List (Nat×Tag)) (args:List AV) (σ:Mem) (Q:AV->Mem->Prop):Prop:=
 match z8C P f ks with
 | none=>False
 | some af=>ifB (Nat.ble args.length af.N) (sem P (zmB tg) Y af.body (zpT af.res Q) (ziM args 0 .leaf) σ) False
theorem zY.of_sem {Y:z6a} {f:Nat} {args:List AV} {Q:AV->Mem->Prop} (ks:List Ann) (tg:List (Nat×Tag)) {X:Prop} (hm:P.follows .mixedOrders=true) (hf:znU P f=true) (he:zqL P Y f ks tg args σ Q=X) (h:σ.Live->X):zY P Y f args σ Q:=by
 unfold zqL at he
 split at he
 · refine ⟨z9h hf,λρ w args' st hl=>?_⟩
   exact (he.mpr (h st.live):False).elim
 · rename_i af haf
   cases hb:Nat.ble args.length af.N with
   | true=>
     rw [hb] at he
     exact zY.of_funcT hm haf (Nat.le_of_ble_eq_true hb) λhl=>zkh (λe t σ _ h=>zhM e t σ h) (show sem P (zmB tg) Y af.body (zpT af.res Q) (ziM args 0 .leaf) σ from he.mpr (h hl))
   | false=>
     rw [hb] at he
     refine ⟨z9h hf,λρ w args' st hl=>?_⟩
     exact (he.mpr (h st.live):False).elim
end
end Go.Vit
end
section
namespace Go.Vit
abbrev tI:Tag:=.i .i64
abbrev tU:Tag:=.i .u8
def iW (n:Int) (K:Int->Prop):Prop:=wrW .i64 n K
def zqo (a b:ByteArray) (K:ByteArray->Prop):Prop:=a.size+b.size<=9223372036854775807/\K (a++b)
def nfW (off:Nat) (v:AV) (K:AV->Prop):Prop:=z8h v λp=>z6C off p K
def ldI (σ:Mem) (v:AV) (K:Int->Prop):Prop:=ldW σ v λa=>zq .i64 a K
def ldU (σ:Mem) (v:AV) (K:Int->Prop):Prop:=ldW σ v λa=>zq .u8 a K
def ldB (σ:Mem) (v:AV) (K:Bool->Prop):Prop:=ldW σ v λa=>z70 a K
def ldS (σ:Mem) (v:AV) (K:ByteArray->Prop):Prop:=ldW σ v λa=>z5t a K
def lfW (off:Nat) (σ:Mem) (v:AV) (K:AV->Prop):Prop:=z8h v λp=>z6C off p λp=>ldW σ p K
def lfI (off:Nat) (σ:Mem) (v:AV) (K:Int->Prop):Prop:=lfW off σ v λa=>zq .i64 a K
def lfU (off:Nat) (σ:Mem) (v:AV) (K:Int->Prop):Prop:=lfW off σ v λa=>zq .u8 a K
def lfB (off:Nat) (σ:Mem) (v:AV) (K:Bool->Prop):Prop:=lfW off σ v λa=>z70 a K
def lfS (off:Nat) (σ:Mem) (v:AV) (K:ByteArray->Prop):Prop:=lfW off σ v λa=>z5t a K
def tpI (v:AV) (i:Nat) (K:Int->Prop):Prop:=z6T v i λa=>zq .i64 a K
def tpU (v:AV) (i:Nat) (K:Int->Prop):Prop:=z6T v i λa=>zq .u8 a K
def tpB (v:AV) (i:Nat) (K:Bool->Prop):Prop:=z6T v i λa=>z70 a K
def tpS (v:AV) (i:Nat) (K:ByteArray->Prop):Prop:=z6T v i λa=>z5t a K
theorem wrap_i64 {n:Int} (h1 : -9223372036854775808<=n) (h2:n<=9223372036854775807):IntKind.i64.wrap n=n:=IntWalk.i64_in _ (by omega)
theorem zqe {n:Int} {K:Int->Prop} (h : -9223372036854775808<=n/\n<=9223372036854775807):iW n K=K n:=by unfold iW wrW;rw [wrap_i64 h.1 h.2]
class One (l:List AV):Prop where
 one:l.all AV.one=true
class To (p:Prop) (q:outParam Prop):Prop where
 go:q->p
section
variable {σ:Mem} {b o n k off i:Nat} {c:Cap} {l:List AV}
instance {α:Type} {a:α} {K:α->Prop}:To (z4j a K) (K a):=⟨id⟩
instance {x y:Prop}:To (ifB true x y) x:=⟨id⟩
instance {x y:Prop}:To (ifB false x y) y:=⟨id⟩
instance {b:Bool} {x y:Prop}:To (ifB (!b) x y) (ifB b y x):=⟨by cases b<;>exact id⟩
instance {n:Int} {K:Int->Prop}:To (iW n K) ((-9223372036854775808<=n/\n<=9223372036854775807)/\K n):=⟨λh=>by rw [zqe h.1];exact h.2⟩
instance {n:Int} {K:Int->Prop}:To (wrW .i64 n K) (iW n K):=⟨id⟩
instance {n:Int} {K:Int->Prop}:To (wrW .u8 n K) (K (n % 256)):=⟨id⟩
instance {n:Int} {K:Int->Prop}:To (wrW .u16 n K) (K (n % 65536)):=⟨id⟩
instance {n:Int} {K:Int->Prop}:To (wrW .u32 n K) (K (n % 4294967296)):=⟨id⟩
instance {n:Int} {K:Int->Prop}:To (wrW .u64 n K) (K (n % 18446744073709551616)):=⟨id⟩
instance {x y:Int} {K:Int->Prop}:To (zgH .i64 x y K) ((0<=x/\x<=9223372036854775807/\0<y)/\K (x / y)):=⟨λ⟨⟨h0,h1,h2⟩,h⟩=>by
 have hd:0<=x / y:=Int.ediv_nonneg h0 (by omega)
 have hl:x / y<=x:=Int.ediv_le_self _ h0
 refine ⟨by omega,?_⟩
 rw [Int.tdiv_eq_ediv_of_nonneg h0,wrap_i64 (by omega) (by omega)];exact h⟩
instance {x y:Int} {K:Int->Prop}:To (zhX x y K) ((0<=x/\0<y)/\K (x % y)):=⟨λ⟨⟨h0,h1⟩,h⟩=>by
 refine ⟨by omega,?_⟩
 rw [Int.tmod_eq_emod_of_nonneg h0];exact h⟩
instance {x y:Int} {K:Int->Prop}:To (zgu .i64 x y K) ((0<=y/\y<=64)/\iW (x*2^y.toNat) K):=⟨λ⟨⟨h0,h1⟩,h⟩=>by
 refine ⟨h0,?_⟩
 rw [ze1,if_pos (by simp [IntKind.bits];omega),zca];exact h⟩
instance {x y:Int} {K:Int->Prop}:To (zlg .i64 x y K) ((0<=y/\y<=64)/\K (x / 2^y.toNat)):=⟨λ⟨⟨h0,h1⟩,h⟩=>by
 refine ⟨h0,?_⟩
 rw [ze1,if_pos (by simp [IntKind.bits];omega),zca];exact h⟩
instance {x y:Int} {K:Int->Prop}:To (zgu .u8 x y K) ((0<=y/\y<=8)/\K (x*2^y.toNat % 256)):=⟨λ⟨⟨h0,h1⟩,h⟩=>by
 refine ⟨h0,?_⟩
 rw [ze1,if_pos (by simp [IntKind.bits];omega),zca];exact h⟩
instance {x y:Int} {K:Int->Prop}:To (zlg .u8 x y K) ((0<=y/\y<=8)/\K (x / 2^y.toNat)):=⟨λ⟨⟨h0,h1⟩,h⟩=>by
 refine ⟨h0,?_⟩
 rw [ze1,if_pos (by simp [IntKind.bits];omega),zca];exact h⟩
instance {k:IntKind} {n:Int} {K:Int->Prop}:To (zq k (.int k n) K) (K n):=⟨by cases k<;>exact id⟩
instance {b:Bool} {K:Bool->Prop}:To (z70 (.bool b) K) (K b):=⟨id⟩
instance {s:ByteArray} {K:ByteArray->Prop}:To (z5t (.str s) K) (K s):=⟨id⟩
instance {K:Int->Prop}:To (zx .nils K) (K 0):=⟨id⟩
instance {K:Int->Prop}:To (zpv .nils K) (K 0):=⟨id⟩
instance {k:Nat} {K:Int->Prop}:To (zpv (.slice b o n (.ex k)) K) (K (k:Nat)):=⟨id⟩
instance {K:Int->Prop}:To (zx (.slice b o n c) K) (K (n:Nat)):=⟨id⟩
instance {K:AV->Prop}:To (z6C off (.ptr b 0) K) (K (.ptr b off)):=⟨by simp only [z6C,Nat.zero_add];exact id⟩
instance (priority:=low) {K:AV->Prop}:To (z6C off (.ptr b o) K) (K (.ptr b (o+off))):=⟨id⟩
instance (priority:=1100) {K:AV->Prop}:To (z6C 0 (.ptr b o) K) (K (.ptr b o)):=⟨id⟩
instance (priority:=1100) {K:AV->Prop}:To (nfW 0 (.ptr b o) K) (K (.ptr b o)):=⟨id⟩
instance (priority:=1100) {K:AV->Prop}:To (lfW 0 σ (.ptr b o) K) (ldW σ (.ptr b o) K):=⟨id⟩
instance {K:AV->Prop}:To (nfW off (.ptr b 0) K) (K (.ptr b off)):=⟨by simp only [nfW,z8h,z6C,Nat.zero_add];exact id⟩
instance (priority:=low) {K:AV->Prop}:To (nfW off (.ptr b o) K) (K (.ptr b (o+off))):=⟨id⟩
instance {v:AV} {K:Int->Prop}:To (ldI σ v K) (ldW σ v λa=>zq .i64 a K):=⟨id⟩
instance {v:AV} {K:Int->Prop}:To (ldU σ v K) (ldW σ v λa=>zq .u8 a K):=⟨id⟩
instance {v:AV} {K:Bool->Prop}:To (ldB σ v K) (ldW σ v λa=>z70 a K):=⟨id⟩
instance {v:AV} {K:ByteArray->Prop}:To (ldS σ v K) (ldW σ v λa=>z5t a K):=⟨id⟩
instance {K:AV->Prop}:To (lfW off σ (.ptr b 0) K) (ldW σ (.ptr b off) K):=⟨by simp only [lfW,z8h,z6C,Nat.zero_add];exact id⟩
instance (priority:=low) {K:AV->Prop}:To (lfW off σ (.ptr b o) K) (ldW σ (.ptr b (o+off)) K):=⟨id⟩
instance {v:AV} {K:Int->Prop}:To (lfI off σ v K) (lfW off σ v λa=>zq .i64 a K):=⟨id⟩
instance {v:AV} {K:Int->Prop}:To (lfU off σ v K) (lfW off σ v λa=>zq .u8 a K):=⟨id⟩
instance {v:AV} {K:Bool->Prop}:To (lfB off σ v K) (lfW off σ v λa=>z70 a K):=⟨id⟩
instance {v:AV} {K:ByteArray->Prop}:To (lfS off σ v K) (lfW off σ v λa=>z5t a K):=⟨id⟩
instance {v:AV} {K:Int->Prop}:To (tpI v i K) (z6T v i λa=>zq .i64 a K):=⟨id⟩
instance {v:AV} {K:Int->Prop}:To (tpU v i K) (z6T v i λa=>zq .u8 a K):=⟨id⟩
instance {v:AV} {K:Bool->Prop}:To (tpB v i K) (z6T v i λa=>z70 a K):=⟨id⟩
instance {v:AV} {K:ByteArray->Prop}:To (tpS v i K) (z6T v i λa=>z5t a K):=⟨id⟩
instance {K:AV->Prop}:To (z8h (.ptr b o) K) (K (.ptr b o)):=⟨id⟩
instance {f:Nat} {K:AV->Prop}:To (z8h (.func f l) K) (K (.func f l)):=⟨id⟩
instance {K:AV->Prop}:To (z6T (.tup l) i K) (z4t l[i]? K):=⟨id⟩
instance {k:Option Nat} {K:AV->Prop}:To (zqf off k (.agg l) K) (z4t (zfy l off k) K):=⟨id⟩
instance {α:Type} {a:α} {K:α->Prop}:To (z4t (some a) K) (K a):=⟨id⟩
instance (priority:=1000) {j:Int} {K:AV->Prop}:To (zz k (.slice b o n c) j K) ((0<=j/\j<n)/\K (.ptr b (o+j.toNat*k))):=⟨λh=>⟨by omega,by simpa using h.2⟩⟩
instance (priority:=1500) {j:Nat} {K:AV->Prop}:To (zz k (.slice b o n c) ((j:Nat):Int) K) ((j<n)/\K (.ptr b (o+j*k))):=⟨λh=>⟨by omega,by simpa using h.2⟩⟩
instance (priority:=1100) {j:Int} {K:AV->Prop}:To (zz 1 (.slice b o n c) j K) ((0<=j/\j<n)/\K (.ptr b (o+j.toNat))):=⟨λh=>⟨by omega,by simpa using h.2⟩⟩
instance (priority:=1600) {j:Nat} {K:AV->Prop}:To (zz 1 (.slice b o n c) ((j:Nat):Int) K) ((j<n)/\K (.ptr b (o+j))):=⟨λh=>⟨by omega,by simpa using h.2⟩⟩
instance (priority:=1100) {j:Int} {K:AV->Prop}:To (zz k (.slice b 0 n c) j K) ((0<=j/\j<n)/\K (.ptr b (j.toNat*k))):=⟨λh=>⟨by omega,by simpa using h.2⟩⟩
instance (priority:=1600) {j:Nat} {K:AV->Prop}:To (zz k (.slice b 0 n c) ((j:Nat):Int) K) ((j<n)/\K (.ptr b (j*k))):=⟨λh=>⟨by omega,by simpa using h.2⟩⟩
instance (priority:=1200) {j:Int} {K:AV->Prop}:To (zz 1 (.slice b 0 n c) j K) ((0<=j/\j<n)/\K (.ptr b (j.toNat))):=⟨λh=>⟨by omega,by simpa using h.2⟩⟩
instance (priority:=1700) {j:Nat} {K:AV->Prop}:To (zz 1 (.slice b 0 n c) ((j:Nat):Int) K) ((j<n)/\K (.ptr b (j))):=⟨λh=>⟨by omega,by simpa using h.2⟩⟩
instance {j:Int} {K:AV->Prop}:To (z3F n k (.ptr b o) j K) ((0<=j/\j<n)/\K (.ptr b (o+j.toNat*k))):=⟨id⟩
instance {s:ByteArray} {j:Int} {K:Int->Prop}:To (z56 s j K) ((0<=j/\j<s.size)/\K (ze s j.toNat:Nat)):=⟨id⟩
instance {q:Option Nat} {j:Int} {K:AV->Prop}:To (zhw n k q (.agg l) j K) ((0<=j/\j<n)/\z4t (zfy l (j.toNat*k) q) K):=⟨id⟩
instance {s s':ByteArray} {K:ByteArray->Prop}:To (zqo s s' K) (s.size+s'.size<=9223372036854775807/\K (s++s')):=⟨id⟩
instance {s:ByteArray} {lo hi:Int} {K:ByteArray->Prop}:To (zi5 s lo hi K) ((0<=lo/\lo<=hi/\hi<=s.size)/\K (s.extract lo.toNat hi.toNat)):=⟨id⟩
instance {s:ByteArray} {X:Prop}:To (zn4 s X) (s.size<=9223372036854775806/\X):=⟨id⟩
instance {x y:Int} {X:Prop}:To (zeH k x y X) ((0<=x/\x<=y/\(k:Int)*y<=140737488355328/\y<=9223372036854775807)/\X):=⟨id⟩
instance {id:Nat} {blk:Blk} {K:Mem->Prop}:To (z15 σ id blk K) (K (σ.put id (some blk))):=⟨λh=>h⟩
instance {K:ByteArray->Prop}:To (zeL σ .nils K) (K ByteArray.empty):=⟨id⟩
instance {K:Int->Prop}:To (zpI σ .nilm K) (K 0):=⟨id⟩
instance {K:Bool->Prop}:To (eqW .ptr .nilp .nilp K) (K true):=⟨id⟩
instance {K:Bool->Prop}:To (eqW .ptr (.ptr b o) .nilp K) (K false):=⟨id⟩
instance {K:Bool->Prop}:To (eqW .sl .nils .nils K) (K true):=⟨id⟩
instance {K:Bool->Prop}:To (eqW .sl (.slice b o n c) .nils K) (K false):=⟨id⟩
instance {K:Bool->Prop}:To (eqW .map .nilm .nilm K) (K true):=⟨id⟩
instance {K:Bool->Prop}:To (eqW .map (.map b) .nilm K) (K false):=⟨id⟩
instance {x y:Bool} {K:Bool->Prop}:To (eqW .bool (.bool x) (.bool y) K) (K (x == y)):=⟨id⟩
instance {l':List AV} {os:List (Nat×Nat)} {K:Bool->Prop}:To (eqW (.flat os) (.agg l) (.agg l') K) (zj9 l l' os K):=⟨id⟩
instance {l':List AV} {K:Bool->Prop}:To (zj9 l l' [] K) (K true):=⟨id⟩
instance {l':List AV} {p:Nat×Nat} {os:List (Nat×Nat)} {K:Bool->Prop}:To (zj9 l l' (p::os) K) (z4t l[p.1]? λx=>z4t l'[p.1]? λy=>zae p.2 x y λr=>zj9 l l' os λq=>K (r&&q)):=⟨id⟩
instance {x y:Bool} {K:Bool->Prop}:To (zae 0 (.bool x) (.bool y) K) (K (x == y)):=⟨id⟩
instance {x y:Int} {k:IntKind} {K:Bool->Prop}:To (zae 1 (.int k x) (.int k y) K) (K (decide (x=y))):=⟨λh=>⟨rfl,h⟩⟩
instance {x y:ByteArray} {K:Bool->Prop}:To (zae 2 (.str x) (.str y) K) (K (decide (x=y))):=⟨id⟩
instance {k:IntKind} {n:Int} {X:Prop}:To (zG (.int k n) 1 X) X:=⟨id⟩
instance {x:Bool} {X:Prop}:To (zG (.bool x) 1 X) X:=⟨id⟩
instance {s:ByteArray} {X:Prop}:To (zG (.str s) 1 X) X:=⟨id⟩
instance {X:Prop}:To (zG .nilp 1 X) X:=⟨id⟩
instance {X:Prop}:To (zG (.ptr b o) 1 X) X:=⟨id⟩
instance {X:Prop}:To (zG .nils 1 X) X:=⟨id⟩
instance {X:Prop}:To (zG (.slice b o n c) 1 X) X:=⟨id⟩
instance {X:Prop}:To (zG .nilm 1 X) X:=⟨id⟩
instance {X:Prop}:To (zG (.map b) 1 X) X:=⟨id⟩
instance {X:Prop}:To (zG .nilf 1 X) X:=⟨id⟩
instance {f:Nat} {X:Prop}:To (zG (.func f l) 1 X) X:=⟨id⟩
instance {X:Prop}:To (zG (.agg l) n X) ((l.length=n/\l.all AV.one=true)/\X):=⟨id⟩
instance:One []:=⟨rfl⟩
instance {k:IntKind} {n:Int} {l:List AV} [h:One l]:One (.int k n::l):=⟨h.one⟩
instance {x:Bool} {l:List AV} [h:One l]:One (.bool x::l):=⟨h.one⟩
instance {s:ByteArray} {l:List AV} [h:One l]:One (.str s::l):=⟨h.one⟩
instance {l:List AV} [h:One l]:One (.nilp::l):=⟨h.one⟩
instance {l:List AV} [h:One l]:One (.ptr b o::l):=⟨h.one⟩
instance {l:List AV} [h:One l]:One (.nils::l):=⟨h.one⟩
instance {l:List AV} [h:One l]:One (.slice b o n c::l):=⟨h.one⟩
instance {l:List AV} [h:One l]:One (.nilm::l):=⟨h.one⟩
instance {l:List AV} [h:One l]:One (.map b::l):=⟨h.one⟩
instance {l:List AV} [h:One l]:One (.nilf::l):=⟨h.one⟩
instance {f:Nat} {l' l:List AV} [h:One l]:One (.func f l'::l):=⟨h.one⟩
instance [h:One l] {X:Prop}:To (zfU (.agg l) X) X:=⟨λx=>⟨h.one,x⟩⟩
instance (priority:=low) {X:Prop}:To (zfU (.agg l) X) (l.all AV.one=true/\X):=⟨id⟩
instance {lo hi:Int} {K:AV->Prop}:To (zcJ k (.slice b o n (.ex i)) (some lo) (some hi) K) ((0<=lo/\lo<=hi/\hi<=i)/\K (.slice b (o+lo.toNat*k) (hi.toNat-lo.toNat) (.ex (i-lo.toNat)))):=⟨λh=>⟨⟨rfl,h.1⟩,h.2⟩⟩
instance {lo:Int} {K:AV->Prop}:To (zcJ k (.slice b o n (.ex i)) (some lo) none K) ((0<=lo/\lo<=n/\n<=i)/\K (.slice b (o+lo.toNat*k) (n-lo.toNat) (.ex (i-lo.toNat)))):=⟨λh=>⟨⟨rfl,h.1.1,h.1.2.1,by have:=h.1.2.2;exact Int.ofNat_le.2 this⟩,h.2⟩⟩
instance {hi:Int} {K:AV->Prop}:To (zcJ k (.slice b o n (.ex i)) none (some hi) K) ((0<=hi/\hi<=i)/\K (.slice b o hi.toNat (.ex i))):=⟨λh=>⟨⟨rfl,Int.le_refl _,h.1⟩,by simpa [orD,Cap.cut] using h.2⟩⟩
instance {lo hi:Int} {K:AV->Prop}:To (zcJ k (.slice b o n (.op i)) (some lo) (some hi) K) ((0<=lo/\lo<=hi/\hi<=n/\(i=k\/i=0))/\K (.slice b (o+lo.toNat*k) (hi.toNat-lo.toNat) (.op i))):=⟨λh=>⟨⟨by simp [Cap.fits,h.1.2.2.2],h.1.1,h.1.2.1,h.1.2.2.1⟩,h.2⟩⟩
instance {lo:Int} {K:AV->Prop}:To (zcJ k (.slice b o n (.op i)) (some lo) none K) ((0<=lo/\lo<=n/\(i=k\/i=0))/\K (.slice b (o+lo.toNat*k) (n-lo.toNat) (.op i))):=⟨λh=>⟨⟨by simp [Cap.fits,h.1.2.2],h.1.1,h.1.2.1,Int.le_refl _⟩,h.2⟩⟩
instance {hi:Int} {K:AV->Prop}:To (zcJ k (.slice b o n (.op i)) none (some hi) K) ((0<=hi/\hi<=n/\(i=k\/i=0))/\K (.slice b o hi.toNat (.op i))):=⟨λh=>⟨⟨by simp [Cap.fits,h.1.2.2],Int.le_refl _,h.1.1,h.1.2.1⟩,by simpa [orD,Cap.cut] using h.2⟩⟩
instance {lo hi:Option Int} {K:AV->Prop}:To (zcJ k .nils lo hi K) ((0<=orD 0 lo/\orD 0 lo<=orD 0 hi/\orD 0 hi<=0)/\K .nils):=⟨id⟩
instance {lo hi:Int} {K:AV->Prop}:To (zom n k (.ptr b o) (some lo) (some hi) K) ((0<=lo/\lo<=hi/\hi<=n)/\K (.slice b (o+lo.toNat*k) (hi.toNat-lo.toNat) (.ex (n-lo.toNat)))):=⟨id⟩
instance {K:AV->Prop}:To (zom n k (.ptr b o) none none K) (K (.slice b o n (.ex n))):=⟨λh=>⟨⟨Int.le_refl _,Int.natCast_nonneg n,Int.le_refl _⟩,by simpa [orD] using h⟩⟩
instance {σ':Mem} {X:Prop}:To (zgF.sameW σ σ' (.ptr b o) X) (σ'.get b=σ.get b/\X):=⟨id⟩
instance {σ':Mem} {X:Prop}:To (zgF.sameW σ σ' (.slice b o n c) X) (σ'.get b=σ.get b/\X):=⟨id⟩
instance {σ':Mem} {X:Prop}:To (zgF.sameW σ σ' (.map b) X) (σ'.get b=σ.get b/\X):=⟨id⟩
instance {σ':Mem} {X:Prop}:To (zgF.sameW σ σ' .nils X) X:=⟨id⟩
instance {σ':Mem} {X:Prop}:To (zgF.sameW σ σ' .nilm X) X:=⟨id⟩
instance {K:Nat->List AV->Prop}:To (zlj σ k .nils K) (K 0 []):=⟨id⟩
instance {s:ByteArray} {K:Nat->List AV->Prop}:To (zlj σ 1 (.str s) K) (K s.size (bytesOf s)):=⟨λh=>⟨rfl,h⟩⟩
instance (priority:=high) {j:Nat} {K:AV->Prop}:To (z3F n k (.ptr b o) (j:Int) K) (j<n/\K (.ptr b (o+j*k))):=⟨λh=>⟨by omega,by simpa using h.2⟩⟩
instance (priority:=high) {s:ByteArray} {j:Nat} {K:Int->Prop}:To (z56 s (j:Int) K) (j<s.size/\K (ze s j:Nat)):=⟨λh=>⟨by omega,by simpa using h.2⟩⟩
instance (priority:=1600) {K:AV->Prop}:To (zz k (.slice b o n c) 0 K) (0<n/\K (.ptr b (o))):=⟨λh=>⟨by omega,by simpa using h.2⟩⟩
instance (priority:=1700) {K:AV->Prop}:To (zz 1 (.slice b o n c) 0 K) (0<n/\K (.ptr b (o))):=⟨λh=>⟨by omega,by simpa using h.2⟩⟩
instance (priority:=1700) {K:AV->Prop}:To (zz k (.slice b 0 n c) 0 K) (0<n/\K (.ptr b (0))):=⟨λh=>⟨by omega,by simpa using h.2⟩⟩
instance (priority:=1800) {K:AV->Prop}:To (zz 1 (.slice b 0 n c) 0 K) (0<n/\K (.ptr b (0))):=⟨λh=>⟨by omega,by simpa using h.2⟩⟩
instance (priority:=1600) {s:ByteArray} {K:Int->Prop}:To (z56 s 0 K) (0<s.size/\K (ze s 0:Nat)):=⟨λh=>⟨by omega,h.2⟩⟩
instance (priority:=1600) {K:AV->Prop}:To (z3F n k (.ptr b o) 0 K) (0<n/\K (.ptr b (o+0*k))):=⟨λh=>⟨by omega,h.2⟩⟩
instance (priority:=1600) {K:AV->Prop}:To (zz k (.slice b o n c) 1 K) (1<n/\K (.ptr b (o+1*k))):=⟨λh=>⟨by omega,by simpa using h.2⟩⟩
instance (priority:=1700) {K:AV->Prop}:To (zz 1 (.slice b o n c) 1 K) (1<n/\K (.ptr b (o+1))):=⟨λh=>⟨by omega,by simpa using h.2⟩⟩
instance (priority:=1700) {K:AV->Prop}:To (zz k (.slice b 0 n c) 1 K) (1<n/\K (.ptr b (1*k))):=⟨λh=>⟨by omega,by simpa using h.2⟩⟩
instance (priority:=1800) {K:AV->Prop}:To (zz 1 (.slice b 0 n c) 1 K) (1<n/\K (.ptr b (1))):=⟨λh=>⟨by omega,by simpa using h.2⟩⟩
instance (priority:=1600) {s:ByteArray} {K:Int->Prop}:To (z56 s 1 K) (1<s.size/\K (ze s 1:Nat)):=⟨λh=>⟨by omega,h.2⟩⟩
instance (priority:=1600) {K:AV->Prop}:To (z3F n k (.ptr b o) 1 K) (1<n/\K (.ptr b (o+1*k))):=⟨λh=>⟨by omega,h.2⟩⟩
instance (priority:=1600) {K:AV->Prop}:To (zz k (.slice b o n c) 2 K) (2<n/\K (.ptr b (o+2*k))):=⟨λh=>⟨by omega,by simpa using h.2⟩⟩
instance (priority:=1700) {K:AV->Prop}:To (zz 1 (.slice b o n c) 2 K) (2<n/\K (.ptr b (o+2))):=⟨λh=>⟨by omega,by simpa using h.2⟩⟩
instance (priority:=1700) {K:AV->Prop}:To (zz k (.slice b 0 n c) 2 K) (2<n/\K (.ptr b (2*k))):=⟨λh=>⟨by omega,by simpa using h.2⟩⟩
instance (priority:=1800) {K:AV->Prop}:To (zz 1 (.slice b 0 n c) 2 K) (2<n/\K (.ptr b (2))):=⟨λh=>⟨by omega,by simpa using h.2⟩⟩
instance (priority:=1600) {s:ByteArray} {K:Int->Prop}:To (z56 s 2 K) (2<s.size/\K (ze s 2:Nat)):=⟨λh=>⟨by omega,h.2⟩⟩
instance (priority:=1600) {K:AV->Prop}:To (z3F n k (.ptr b o) 2 K) (2<n/\K (.ptr b (o+2*k))):=⟨λh=>⟨by omega,h.2⟩⟩
instance (priority:=1600) {K:AV->Prop}:To (zz k (.slice b o n c) 3 K) (3<n/\K (.ptr b (o+3*k))):=⟨λh=>⟨by omega,by simpa using h.2⟩⟩
instance (priority:=1700) {K:AV->Prop}:To (zz 1 (.slice b o n c) 3 K) (3<n/\K (.ptr b (o+3))):=⟨λh=>⟨by omega,by simpa using h.2⟩⟩
instance (priority:=1700) {K:AV->Prop}:To (zz k (.slice b 0 n c) 3 K) (3<n/\K (.ptr b (3*k))):=⟨λh=>⟨by omega,by simpa using h.2⟩⟩
instance (priority:=1800) {K:AV->Prop}:To (zz 1 (.slice b 0 n c) 3 K) (3<n/\K (.ptr b (3))):=⟨λh=>⟨by omega,by simpa using h.2⟩⟩
instance (priority:=1600) {s:ByteArray} {K:Int->Prop}:To (z56 s 3 K) (3<s.size/\K (ze s 3:Nat)):=⟨λh=>⟨by omega,h.2⟩⟩
instance (priority:=1600) {K:AV->Prop}:To (z3F n k (.ptr b o) 3 K) (3<n/\K (.ptr b (o+3*k))):=⟨λh=>⟨by omega,h.2⟩⟩
/-! ### Forks -/
theorem ifT {p x y:Prop} [Decidable p] (h:p) (hx:x):ifB (decide p) x y:=by rw [decide_eq_true h];exact hx
theorem ifF {p x y:Prop} [Decidable p] (h:¬ p) (hy:y):ifB (decide p) x y:=by rw [decide_eq_false h];exact hy
theorem ifD {p x y:Prop} [Decidable p] (h1:p->x) (h2:¬ p->y):ifB (decide p) x y:=by
 by_cases h:p
 · exact ifT h (h1 h)
 · exact ifF h (h2 h)
theorem ifI {b:Bool} {x y:Prop} (h1:b=true->x) (h2:b=false->y):ifB b x y:=by
 cases b
 · exact h2 rfl
 · exact h1 rfl
theorem opt {α:Type} {a:Option α} {v:α} {K:α->Prop} (h:a=some v) (hk:K v):z4t a K:=by rw [h];exact hk
/-! ### Memory -/
theorem ldq {q:Blk} {v:AV} {K:AV->Prop} (h1:σ.get b=some q) (h2:(q.cellsR.bind λc=>c[o]?)=some v) (h:K v):ldW σ (.ptr b o) K:=by
 show z4t ((σ.get b).bind λk=>k.cellsR.bind λc=>c[o]?) K
 rw [h1];simp only [Option.bind_some,h2];exact h
theorem ldrw {v:AV} {K:AV->Prop} (h1:σ.get b=some (.rw l)) (h2:l[o]? = some v) (h:K v):ldW σ (.ptr b o) K:=ldq h1 h2 h
theorem ldro {v:AV} {K:AV->Prop} (h1:σ.get b=some (.ro l)) (h2:l[o]? = some v) (h:K v):ldW σ (.ptr b o) K:=ldq h1 h2 h
theorem ldnq {q:Blk} {K:AV->Prop} (h1:σ.get b=some q) (h2:q.cellsR=some l) (h3:o+n<=l.length) (h:K (.agg ((l.drop o).take n))):z5x n σ (.ptr b o) K:=by
 show z4t ((σ.get b).bind λk=>k.cellsR.bind λc=>if o+n<=c.length then some ((c.drop o).take n) else none) λc=>K (.agg c)
 rw [h1];simp only [Option.bind_some,h2];rw [if_pos h3];exact h
theorem st1 {v:AV} {K:Mem->Prop} (h:σ.get b=some (.rw l)) (hn:o<l.length) (h1:v.one=true) (hk:K (σ.put b (some (.rw (l.set o v))))):stW 1 σ (.ptr b o) v K:=by
 simp only [stW,h,z4t]
 cases v<;>first | exact Bool.noConfusion h1 | exact ⟨hn,hk⟩
theorem stn {vs:List AV} {K:Mem->Prop} (h:σ.get b=some (.rw l)) (hn:o+n<=l.length) (h2:vs.length=n) (h1:vs.all AV.one=true) (hk:K (σ.put b (some (.rw (setAt l o vs))))):stW n σ (.ptr b o) (.agg vs) K:=by
 simp only [stW,h,z4t]
 exact ⟨⟨h2,h1⟩,hn,hk⟩
theorem gB {x:Option Blk} {n:Nat} (h:σ.get b=x):(σ.bump n).get b=x:=h
theorem gN {b':Nat} {x k:Option Blk} (hne:b'≠b) (h:σ.get b'=x):(σ.put b k).get b'=x:=(Mem.get_put_ne σ hne k).trans h
theorem gS' {k:Option Blk}:(σ.put b k).get b=k:=Mem.get_put_self σ b k
theorem z0 {P:Program} {f:Nat} {Q K:AV->Mem->Prop} (h:z1 P f l σ Q) (hk:∀ v σ',Q v σ'->K v σ'):z5 P f l σ K:=h.mono hk
theorem z8E {P:Program} {f:Nat} {l':List AV} {Q K:AV->Mem->Prop} (h:z1 P f (l++l') σ Q) (hk:∀ v σ',Q v σ'->K v σ'):z3m P (.func f l') l σ K:=h.mono hk
theorem zu {gs:List Tag} {body:Fn gs->Prop} {rest:Fn gs} (h:body rest):zd gs body rest:=⟨rest,h,λ_ _ h=>h⟩
end
attribute [go_sem] Mem.get_bump Mem.get_put_self Mem.get_put_ne Mem.next_put Mem.next_bump
def Again (p:Prop):Prop:=p
theorem again {p:Prop} (h:p):Again p:=h
def Ends (p:Prop):Prop:=p
theorem ends {p:Prop} (h:p):Ends p:=h
/-! ### Loops and joins, by the number of their things -/
theorem loop0 {body:Fn []->Fn []}  {σ:Mem} {ι:Type} (I:ι->Mem->Prop) (μ:ι->Nat) (i:ι) (h0:I i  σ)
 (h:∀ i  σ,I i  σ->body (λ σ=>Again (∃ j,I j  σ/\μ j<μ i))  σ):zj [] body  σ:=
 show zkL [] body () σ from ⟨ι,λi a σ=>I i  σ,μ,i,h0,λi a σ hi=>h i  σ hi⟩
theorem join0 {body:Fn []->Prop} {rest:Fn []} (R:Mem->Prop) (h0:body R) (h:∀  σ,R  σ->rest  σ):zd [] body rest:=
 ⟨R,h0,λa σ hi=>h  σ hi⟩
theorem loop1 {g1:Tag} {body:Fn [g1]->Fn [g1]} {x1:g1.Ty} {σ:Mem} {ι:Type} (I:ι->g1.Ty->Mem->Prop) (μ:ι->Nat) (i:ι) (h0:I i x1 σ)
 (h:∀ i (x1:g1.Ty) σ,I i x1 σ->body (λx1 σ=>Again (∃ j,I j x1 σ/\μ j<μ i)) x1 σ):zj [g1] body x1 σ:=
 show zkL [g1] body (x1,()) σ from ⟨ι,λi a σ=>I i a.1 σ,μ,i,h0,λi a σ hi=>h i a.1 σ hi⟩
theorem join1 {g1:Tag} {body:Fn [g1]->Prop} {rest:Fn [g1]} (R:g1.Ty->Mem->Prop) (h0:body R) (h:∀ (x1:g1.Ty) σ,R x1 σ->rest x1 σ):zd [g1] body rest:=
 ⟨R,h0,λa σ hi=>h a.1 σ hi⟩
theorem loop2 {g1 g2:Tag} {body:Fn [g1,g2]->Fn [g1,g2]} {x1:g1.Ty} {x2:g2.Ty} {σ:Mem} {ι:Type} (I:ι->g1.Ty->g2.Ty->Mem->Prop) (μ:ι->Nat) (i:ι) (h0:I i x1 x2 σ)
 (h:∀ i (x1:g1.Ty) (x2:g2.Ty) σ,I i x1 x2 σ->body (λx1 x2 σ=>Again (∃ j,I j x1 x2 σ/\μ j<μ i)) x1 x2 σ):zj [g1,g2] body x1 x2 σ:=
 show zkL [g1,g2] body (x1,x2,()) σ from ⟨ι,λi a σ=>I i a.1 a.2.1 σ,μ,i,h0,λi a σ hi=>h i a.1 a.2.1 σ hi⟩
theorem join2 {g1 g2:Tag} {body:Fn [g1,g2]->Prop} {rest:Fn [g1,g2]} (R:g1.Ty->g2.Ty->Mem->Prop) (h0:body R) (h:∀ (x1:g1.Ty) (x2:g2.Ty) σ,R x1 x2 σ->rest x1 x2 σ):zd [g1,g2] body rest:=
 ⟨R,h0,λa σ hi=>h a.1 a.2.1 σ hi⟩
theorem loop3 {g1 g2 g3:Tag} {body:Fn [g1,g2,g3]->Fn [g1,g2,g3]} {x1:g1.Ty} {x2:g2.Ty} {x3:g3.Ty} {σ:Mem} {ι:Type} (I:ι->g1.Ty->g2.Ty->g3.Ty->Mem->Prop) (μ:ι->Nat) (i:ι) (h0:I i x1 x2 x3 σ)
 (h:∀ i (x1:g1.Ty) (x2:g2.Ty) (x3:g3.Ty) σ,I i x1 x2 x3 σ->body (λx1 x2 x3 σ=>Again (∃ j,I j x1 x2 x3 σ/\μ j<μ i)) x1 x2 x3 σ):zj [g1,g2,g3] body x1 x2 x3 σ:=
 show zkL [g1,g2,g3] body (x1,x2,x3,()) σ from ⟨ι,λi a σ=>I i a.1 a.2.1 a.2.2.1 σ,μ,i,h0,λi a σ hi=>h i a.1 a.2.1 a.2.2.1 σ hi⟩
theorem join3 {g1 g2 g3:Tag} {body:Fn [g1,g2,g3]->Prop} {rest:Fn [g1,g2,g3]} (R:g1.Ty->g2.Ty->g3.Ty->Mem->Prop) (h0:body R) (h:∀ (x1:g1.Ty) (x2:g2.Ty) (x3:g3.Ty) σ,R x1 x2 x3 σ->rest x1 x2 x3 σ):zd [g1,g2,g3] body rest:=
 ⟨R,h0,λa σ hi=>h a.1 a.2.1 a.2.2.1 σ hi⟩
theorem loop4 {g1 g2 g3 g4:Tag} {body:Fn [g1,g2,g3,g4]->Fn [g1,g2,g3,g4]} {x1:g1.Ty} {x2:g2.Ty} {x3:g3.Ty} {x4:g4.Ty} {σ:Mem} {ι:Type} (I:ι->g1.Ty->g2.Ty->g3.Ty->g4.Ty->Mem->Prop) (μ:ι->Nat) (i:ι) (h0:I i x1 x2 x3 x4 σ)
 (h:∀ i (x1:g1.Ty) (x2:g2.Ty) (x3:g3.Ty) (x4:g4.Ty) σ,I i x1 x2 x3 x4 σ->body (λx1 x2 x3 x4 σ=>Again (∃ j,I j x1 x2 x3 x4 σ/\μ j<μ i)) x1 x2 x3 x4 σ):zj [g1,g2,g3,g4] body x1 x2 x3 x4 σ:=
 show zkL [g1,g2,g3,g4] body (x1,x2,x3,x4,()) σ from ⟨ι,λi a σ=>I i a.1 a.2.1 a.2.2.1 a.2.2.2.1 σ,μ,i,h0,λi a σ hi=>h i a.1 a.2.1 a.2.2.1 a.2.2.2.1 σ hi⟩
end Go.Vit
end
section
namespace Go.Vit
theorem zd2:reachBytes=140737488351232:=by decide
/-! ### Bytes as cells -/
def bl (l:List UInt8):List AV:=l.map λb=>.int .u8 b.toNat
theorem zf0:∀ l:List UInt8,z7C (bl l)=some l
 | []=>rfl
 | b::l=>by
   have ih:=zf0 l
   unfold bl at ih ⊢
   rw [List.map_cons,z7C,ih]
   simp
theorem z5K (l:List UInt8):(bl l).length=l.length:=by simp [bl]
theorem zor {l:List UInt8} {i:Nat} (h:i<l.length):(bl l)[i]? = some (.int .u8 (l[i]).toNat):=by
 simp [bl,List.getElem?_eq_getElem h]
theorem zpK (l:List UInt8) (i:Nat) (b:UInt8):(bl l).set i (.int .u8 b.toNat)=bl (l.set i b):=by
 unfold bl;rw [List.map_set]
theorem z8Q (l l':List UInt8):bl l++bl l'=bl (l++l'):=by simp [bl]
theorem zcI (l:List UInt8):(bl l).all AV.one=true:=by
 rw [List.all_eq_true]
 intro x hx
 simp only [bl,List.mem_map] at hx
 obtain ⟨b,_,rfl⟩:=hx
 rfl
theorem zpe (l:List UInt8) (n:Nat):(bl l).take n=bl (l.take n):=by simp [bl,List.map_take]
theorem zdy {n:Int} (h:0<=n/\n<256):[AV.int .u8 n]=bl [UInt8.ofNat n.toNat]:=by
 simp only [bl,List.map_cons,List.map_nil,UInt8.toNat_ofNat']
 congr 2;omega
theorem zg5 {σ:Mem} {b n:Nat} {c:Cap} {l:List UInt8} {K:ByteArray->Prop} (h:σ.get b=some (.rw (bl l))) (hn:n=l.length) (hk:K ⟨l.toArray⟩):zeL σ (.slice b 0 n c) K:=by
 subst hn
 refine opt (a:=(σ.cells b 0 l.length).bind z7C) (v:=l) ?_ hk
 rw [Mem.cells_of h,if_pos (by rw [z5K];omega)]
 simp only [Option.bind_some,List.drop_zero]
 rw [zpe,List.take_length,zf0]
theorem zaI (l:List UInt8):zI ⟨l.toArray⟩=l:=by simp [zI]
theorem zj3 (l:List UInt8):(⟨l.toArray⟩:ByteArray).size=l.length:=by simp [ByteArray.size]
theorem zhP (s:ByteArray):(⟨(zI s).toArray⟩:ByteArray)=s:=by cases s;simp [zI]
theorem zc1 {a b:ByteArray} (h:zI a=zI b):a=b:=by rw [<- zhP a,h,zhP]
theorem zb7 (a b:ByteArray):zI (a++b)=zI a++zI b:=by simp [zI]
theorem zlG (l:List UInt8) (i:Nat):ze ⟨l.toArray⟩ i=(l[i]?.getD 0).toNat:=by simp [ze,zaI]
theorem zcw {s:ByteArray} {i:Nat} (h:i<(zI s).length):ze s i=((zI s)[i]).toNat:=by
 unfold ze;rw [List.getElem?_eq_getElem h];rfl
theorem z8S {a b:ByteArray} (hs:a.size=b.size) (h:∀ i,i<a.size->ze a i=ze b i):a=b:=by
 refine zc1 (List.ext_getElem (by rw [zL,zL,hs]) λi h1 h2=>?_)
 have:=h i (by rw [<- zL];exact h1)
 rw [zcw h1,zcw h2] at this
 exact UInt8.toNat_inj.1 this
theorem zoI {x y:Nat} (hx:x<256) (hy:y<256):zB .xor .u8 (x:Int) (y:Int)=((x ^^^ y:Nat):Int):=by
 show IntKind.u8.wrap (((BitVec.ofInt 8 (x:Int) ^^^ BitVec.ofInt 8 (y:Int)).toNat:Nat):Int)=_
 rw [show BitVec.ofInt 8 (x:Int)=BitVec.ofNat 8 x from by simp,show BitVec.ofInt 8 (y:Int)=BitVec.ofNat 8 y from by simp,BitVec.toNat_xor,BitVec.toNat_ofNat,BitVec.toNat_ofNat,Nat.mod_eq_of_lt (by omega),Nat.mod_eq_of_lt (by omega),wrap_u8']
 have:x ^^^ y<2^8:=Nat.xor_lt_two_pow (by omega) (by omega)
 omega
where wrap_u8' (n:Int):IntKind.u8.wrap n=n % 256:=rfl
theorem zq1 {x y:Nat} (hx:x<256) (hy:y<256):zB .and .u8 (x:Int) (y:Int)=((x &&& y:Nat):Int):=by
 show IntKind.u8.wrap (((BitVec.ofInt 8 (x:Int) &&& BitVec.ofInt 8 (y:Int)).toNat:Nat):Int)=_
 rw [show BitVec.ofInt 8 (x:Int)=BitVec.ofNat 8 x from by simp,show BitVec.ofInt 8 (y:Int)=BitVec.ofNat 8 y from by simp,BitVec.toNat_and,BitVec.toNat_ofNat,BitVec.toNat_ofNat,Nat.mod_eq_of_lt (by omega),Nat.mod_eq_of_lt (by omega),zoI.wrap_u8']
 have:x &&& y<=x:=Nat.and_le_left
 omega
theorem zpB {x y:Nat} (hx:x<256) (hy:y<256):zB .or .u8 (x:Int) (y:Int)=((x ||| y:Nat):Int):=by
 show IntKind.u8.wrap (((BitVec.ofInt 8 (x:Int) ||| BitVec.ofInt 8 (y:Int)).toNat:Nat):Int)=_
 rw [show BitVec.ofInt 8 (x:Int)=BitVec.ofNat 8 x from by simp,show BitVec.ofInt 8 (y:Int)=BitVec.ofNat 8 y from by simp,BitVec.toNat_or,BitVec.toNat_ofNat,BitVec.toNat_ofNat,Nat.mod_eq_of_lt (by omega),Nat.mod_eq_of_lt (by omega),zoI.wrap_u8']
 have:x ||| y<2^8:=Nat.or_lt_two_pow (by omega) (by omega)
 omega
end Go.Vit
end
section
namespace Go.Vit
structure Mem.Only (l:List Nat) (σ σ':Mem):Prop where
 next:σ.next<=σ'.next
 get:∀ b,b<σ.next->b ∉ l->σ'.get b=σ.get b
theorem Mem.Same.only {σ σ':Mem} (h:σ.Same σ') (l:List Nat):Mem.Only l σ σ':=⟨h.next,λb hb _=>h.get b hb⟩
theorem Mem.Only.refl (l:List Nat) (σ:Mem):Mem.Only l σ σ:=⟨Nat.le_refl _,λ_ _ _=>rfl⟩
theorem Mem.Only.trans {l:List Nat} {σ σ' σ'':Mem} (h:Mem.Only l σ σ') (h':Mem.Only l σ' σ''):Mem.Only l σ σ'':=
 ⟨Nat.le_trans h.next h'.next,λb hb hn=>(h'.get b (Nat.lt_of_lt_of_le hb h.next) hn).trans (h.get b hb hn)⟩
theorem Mem.Only.mono {l l':List Nat} {σ σ':Mem} (h:Mem.Only l σ σ') (hl:∀ b∈l,b∈l'\/σ.next<=b):Mem.Only l' σ σ':=
 ⟨h.next,λb hb hn=>h.get b hb λhm=>by rcases hl b hm with h | h;exact hn h;omega⟩
theorem Mem.Only.bump {l:List Nat} {σ σ':Mem} (h:Mem.Only l σ σ') (n:Nat):Mem.Only l σ (σ'.bump n):=⟨Nat.le_trans h.next (Nat.le_add_right _ _),λb hb hn=>h.get b hb hn⟩
theorem Mem.Only.put {l:List Nat} {σ σ':Mem} (h:Mem.Only l σ σ') {b:Nat} (hb:b∈l\/σ.next<=b) (o:Option Blk):Mem.Only l σ (σ'.put b o):=
 ⟨h.next,λc hc hn=>(Mem.get_put_ne _ (by rintro rfl;rcases hb with hb | hb;exact hn hb;omega) _).trans (h.get c hc hn)⟩
theorem Mem.Only.same {σ σ':Mem} (h:Mem.Only [] σ σ'):σ.Same σ':=⟨h.next,λb hb=>h.get b hb (by simp)⟩
theorem Mem.Only.keep {l:List Nat} {σ σ':Mem} (h:Mem.Only l σ σ') {b:Nat} {o:Option Blk} (hg:σ.get b=o) (hb:b<σ.next) (hn:b ∉ l):σ'.get b=o:=(h.get b hb hn).trans hg
theorem Mem.Same.keep {σ σ':Mem} (h:σ.Same σ') {b:Nat} {o:Option Blk} (hg:σ.get b=o) (hb:b<σ.next):σ'.get b=o:=(h.get b hb).trans hg
theorem Mem.Same.ob {σ σ':Mem} {n:Nat} (h:(σ.bump n).Same σ'):σ.Same σ':=⟨Nat.le_trans (Nat.le_add_right _ _) h.next,λb hb=>h.get b (Nat.lt_of_lt_of_le hb (Nat.le_add_right _ _))⟩
theorem Mem.Only.ob {l:List Nat} {σ σ':Mem} {n:Nat} (h:Mem.Only l (σ.bump n) σ'):Mem.Only l σ σ':=⟨Nat.le_trans (Nat.le_add_right _ _) h.next,λb hb=>h.get b (Nat.lt_of_lt_of_le hb (Nat.le_add_right _ _))⟩
theorem Mem.Only.then {l:List Nat} {σ σ' σ'':Mem} (h:Mem.Only l σ σ') (h':σ'.Same σ''):Mem.Only l σ σ'':=h.trans (h'.only l)
theorem Mem.Live.lt {σ:Mem} (h:σ.Live) {b:Nat} {k:Blk} (hg:σ.get b=some k):b<σ.next:=h b k hg
/-! ### Bits of bytes -/
def z2T (s:ByteArray) (i:Nat):Nat:=ze s (i / 8) / 2^(i % 8) % 2
def val (s:ByteArray) (at':Nat):Nat->Nat
 | 0=>0
 | n+1=>val s at' n+z2T s (at'+n)*2^n
theorem zd3 (s:ByteArray) (i:Nat):z2T s i<2:=Nat.mod_lt _ (by decide)
theorem zcr (s:ByteArray) (at':Nat):∀ n,val s at' n<2^n
 | 0=>by simp [val]
 | n+1=>by
   have:=zcr s at' n
   have hb:=zd3 s (at'+n)
   simp only [val]
   rw [Nat.pow_succ]
   rcases Nat.lt_or_ge (z2T s (at'+n)) 1 with h | h
   · have:z2T s (at'+n)=0:=by omega
     rw [this];omega
   · have:z2T s (at'+n)=1:=by omega
     rw [this];omega
theorem zg6 (s:ByteArray) (at' m:Nat):∀ n,val s at' (m+n)=val s at' m+2^m*val s (at'+m) n
 | 0=>by simp [val]
 | n+1=>by
   rw [<- Nat.add_assoc,val,zg6 s at' m n,val,Nat.mul_add,Nat.pow_add,Nat.add_assoc,Nat.add_assoc]
   congr 2
   rw [Nat.mul_comm (z2T s _),Nat.mul_comm (z2T s _),Nat.mul_assoc]
theorem zmr (s:ByteArray) (at':Nat) {m n:Nat} (h:n<=m):val s at' m % 2^n=val s at' n:=by
 obtain ⟨k,rfl⟩:=Nat.exists_eq_add_of_le h
 rw [zg6,Nat.add_mul_mod_self_left,Nat.mod_eq_of_lt (zcr _ _ _)]
theorem zn2 (s:ByteArray) (at':Nat) {m n:Nat} (h:n<=m):val s at' m / 2^n=val s (at'+n) (m-n):=by
 obtain ⟨k,rfl⟩:=Nat.exists_eq_add_of_le h
 rw [zg6,Nat.add_mul_div_left _ _ (Nat.pow_pos (by decide)),Nat.div_eq_of_lt (zcr _ _ _),Nat.zero_add,Nat.add_sub_cancel_left]
theorem bits8 {x:Nat} (h:x<256):0+x / 2^0 % 2*2^0+x / 2^1 % 2*2^1+x / 2^2 % 2*2^2+x / 2^3 % 2*2^3+x / 2^4 % 2*2^4+x / 2^5 % 2*2^5+x / 2^6 % 2*2^6+x / 2^7 % 2*2^7=x:=by
 have step:∀ j,x / 2^j=2*(x / 2^(j+1))+x / 2^j % 2:=by
  intro j
  rw [Nat.pow_succ,<- Nat.div_div_eq_div_mul];omega
 have h0:=step 0
 have h1:=step 1
 have h2:=step 2
 have h3:=step 3
 have h4:=step 4
 have h5:=step 5
 have h6:=step 6
 have h7:=step 7
 have h8:x / 2^8=0:=Nat.div_eq_of_lt h
 have hx:x / 2^0=x:=by simp
 simp only [Nat.zero_add,Nat.reduceAdd] at h0 h1 h2 h3 h4 h5 h6 h7 ⊢
 generalize x / 2^0=y0 at *
 generalize x / 2^1=y1 at *
 generalize x / 2^2=y2 at *
 generalize x / 2^3=y3 at *
 generalize x / 2^4=y4 at *
 generalize x / 2^5=y5 at *
 generalize x / 2^6=y6 at *
 generalize x / 2^7=y7 at *
 generalize x / 2^8=y8 at *
 generalize y0 % 2=b0 at *
 generalize y1 % 2=b1 at *
 generalize y2 % 2=b2 at *
 generalize y3 % 2=b3 at *
 generalize y4 % 2=b4 at *
 generalize y5 % 2=b5 at *
 generalize y6 % 2=b6 at *
 generalize y7 % 2=b7 at *
 clear step
 omega
theorem zjX (s:ByteArray) (k:Nat):val s (8*k) 8=ze s k:=by
 have hb:∀ j,j<8->z2T s (8*k+j)=ze s k / 2^j % 2:=by
  intro j hj
  unfold z2T
  rw [show (8*k+j) / 8=k by omega,show (8*k+j) % 8=j by omega]
 have:=bits8 (zF s k)
 simp only [val]
 rw [hb 0 (by omega),hb 1 (by omega),hb 2 (by omega),hb 3 (by omega),hb 4 (by omega),hb 5 (by omega),hb 6 (by omega),hb 7 (by omega)]
 exact this
theorem z7L {a b n:Nat} (h:a<2^n):a ||| (b*2^n)=a+b*2^n:=by
 have:=Nat.two_pow_add_eq_or_of_lt h b
 rw [Nat.or_comm,Nat.mul_comm b,<- this,Nat.add_comm]
theorem zns (a n:Nat):a &&& (2^n-1)=a % 2^n:=Nat.and_two_pow_sub_one_eq_mod a n
theorem z1D {a b:Nat} (h:a<=b):2^a<=2^b:=Nat.pow_le_pow_right (by decide) h
theorem z9f {x a m n:Nat} (h:x<2^a) (hn:n+a<=m):x*2^n<2^m:=by
 calc x*2^n<2^a*2^n:=Nat.mul_lt_mul_of_pos_right h (Nat.pow_pos (by decide))
  _=2^(n+a):=by rw [<- Nat.pow_add,Nat.add_comm]
  _<=2^m:=z1D hn
/-! ### Pieces of strings -/
theorem size_extract (s:ByteArray) (i j:Nat):(s.extract i j).size=min j s.size-i:=ByteArray.size_extract
theorem z4E (s:ByteArray) (i j:Nat):zI (s.extract i j)=((zI s).drop i).take (j-i):=by
 simp only [zI,ByteArray.data_extract,Array.toList_extract,List.extract_eq_take_drop]
theorem zS (s:ByteArray) (i j k:Nat) (h:i+k<j):ze (s.extract i j) k=ze s (i+k):=by
 unfold ze
 rw [z4E,List.getElem?_take_of_lt (by omega),List.getElem?_drop]
theorem z5L (s:ByteArray) {i j k l:Nat} (h:i+l<=j):(s.extract i j).extract k l=s.extract (i+k) (i+l):=by
 refine zc1 ?_
 rw [z4E,z4E,z4E,List.drop_take,List.take_take,List.drop_drop]
 congr 1
 omega
end Go.Vit
end
section
namespace Go.Vit
theorem z7v {α:Type} {enc:α->List AV} {k:Nat} (hk:∀ a,(enc a).length=k):∀ l:List α,(l.flatMap enc).length=l.length*k
 | []=>by simp
 | a::l=>by rw [List.flatMap_cons,List.length_append,hk,z7v hk l,List.length_cons,Nat.add_mul];omega
theorem zh8 {α:Type} {enc:α->List AV} {k:Nat} (hk:∀ a,(enc a).length=k):∀ (l:List α) (i:Nat),(l.flatMap enc).drop (i*k)=(l.drop i).flatMap enc
 | l,0=>by simp
 | [],i+1=>by simp
 | a::l,i+1=>by
   rw [List.flatMap_cons,List.drop_succ_cons,<- zh8 hk l i,Nat.add_mul,Nat.one_mul,Nat.add_comm,<- List.drop_drop,List.drop_left' (hk a)]
theorem z77 {α:Type} {enc:α->List AV} {k:Nat} (hk:∀ a,(enc a).length=k) {l:List α} {i:Nat} (hi:i<l.length):((l.flatMap enc).drop (i*k)).take k=enc l[i]:=by
 rw [zh8 hk,List.drop_eq_getElem_cons hi,List.flatMap_cons,List.take_left' (hk _)]
theorem zgg {α:Type} {enc:α->List AV} {k:Nat} (hk:∀ a,(enc a).length=k):∀ (l:List α) (i:Nat) (a:α),i<l.length->setAt (l.flatMap enc) (i*k) (enc a)=(l.set i a).flatMap enc
 | [],i,a,h=>by simp at h
 | x::l,i,a,h=>by
   have key:∀ (cs pre post:List AV),setAt (pre++post) pre.length cs=pre++setAt post 0 cs:=by
    intro cs
    induction cs with
    | nil=>intro pre post;rfl
    | cons c cs ih=>
      intro pre post
      rw [setAt,setAt]
      cases post with
      | nil=>
        simp only [List.append_nil,List.set_nil]
        rw [List.set_eq_of_length_le (Nat.le_refl _)]
        have h1:∀ (cs l:List AV) (o:Nat),l.length<=o->setAt l o cs=l:=by
         intro cs
         induction cs with
         | nil=>intro l o _;rfl
         | cons c cs ih=>intro l o h;rw [setAt,List.set_eq_of_length_le h];exact ih _ _ (by omega)
        rw [h1 _ _ _ (by omega),h1 _ _ _ (by simp)];simp
      | cons y post=>
        rw [List.set_append_right _ _ (Nat.le_refl _),Nat.sub_self,List.set_cons_zero]
        have:=ih (pre++[c]) post
        rw [List.append_assoc,List.length_append] at this
        simp only [List.cons_append,List.nil_append,List.length_cons,List.length_nil,Nat.zero_add] at this
        rw [this]
        have:=ih [c] post
        simp only [List.cons_append,List.nil_append,List.length_cons,List.length_nil,Nat.zero_add] at this
        rw [show (0:Nat)+1=1 from rfl,this];simp
   have front:∀ (cs old post:List AV),old.length=cs.length->setAt (old++post) 0 cs=cs++post:=by
    intro cs
    induction cs with
    | nil=>intro old post ho;rw [List.length_eq_zero_iff.1 ho];rfl
    | cons c cs ih=>
      intro old post ho
      cases old with
      | nil=>simp at ho
      | cons y old=>
        rw [setAt,List.cons_append,List.set_cons_zero]
        have:=key cs [c] (old++post)
        simp only [List.cons_append,List.nil_append,List.length_cons,List.length_nil,Nat.zero_add] at this
        rw [show (0:Nat)+1=1 from rfl,this,ih old post (by simpa using ho)]
        rfl
   cases i with
   | zero=>rw [Nat.zero_mul,List.set_cons_zero,List.flatMap_cons,List.flatMap_cons,front _ _ _ (by rw [hk,hk])]
   | succ i=>
     rw [List.flatMap_cons,List.set_cons_succ,List.flatMap_cons,Nat.add_mul,Nat.one_mul,Nat.add_comm]
     have:∀ (cs pre post:List AV) (o:Nat),setAt (pre++post) (pre.length+o) cs=pre++setAt post o cs:=by
      intro cs
      induction cs with
      | nil=>intro pre post o;rfl
      | cons c cs ih=>intro pre post o;rw [setAt,setAt,List.set_append_right _ _ (by omega),Nat.add_sub_cancel_left,Nat.add_assoc,ih]
     have h2:=this (enc a) (enc x) (l.flatMap enc) (i*k)
     rw [hk] at h2
     rw [h2,zgg hk l i a (by simpa using h)]
section
variable {P:Program} {σ:Mem}
def fieldsOf (P:Program) (t:TypeId):List (Nat×Nat):=
 match P.underlying t with
 | some (.struct fs)=>fs.toList.map λf=>(f.type,f.offset)
 | _=>[]
end
end Go.Vit
end
section
namespace Go.Vit
def z3:AV->List Nat
 | .slice b _ _ _=>[b]
 | _=>[]
def z1Q (k:Nat) (σ:Mem) (v:AV) (cs:List AV) (n:Nat):Prop:=
 (v=.nils/\n=0/\cs=[])\/∃ b,v=.slice b 0 n (.op k)/\σ.get b=some (.rw cs)/\cs.length=n*k
theorem z1Q.nil (k:Nat) (σ:Mem):z1Q k σ .nils [] 0:=.inl ⟨rfl,rfl,rfl⟩
theorem z1Q.len {k n:Nat} {σ:Mem} {v:AV} {cs:List AV} (h:z1Q k σ v cs n) {K:Int->Prop} (hk:K (n:Nat)):zx v K:=by
 rcases h with ⟨rfl,rfl,rfl⟩ | ⟨b,rfl,_⟩<;>exact hk
theorem z1Q.length {k n:Nat} {σ:Mem} {v:AV} {cs:List AV} (h:z1Q k σ v cs n):cs.length=n*k:=by
 rcases h with ⟨rfl,rfl,rfl⟩ | ⟨b,rfl,_,h⟩
 · simp
 · exact h
theorem z1Q.keep {k n:Nat} {σ σ':Mem} {v:AV} {cs:List AV} (h:z1Q k σ v cs n) (hb:∀ b∈z3 v,σ'.get b=σ.get b):z1Q k σ' v cs n:=by
 rcases h with h | ⟨b,rfl,hg,hl⟩
 · exact .inl h
 · exact .inr ⟨b,rfl,(hb b (by simp [z3])).trans hg,hl⟩
theorem z1Q.lt {k n:Nat} {σ:Mem} {v:AV} {cs:List AV} (h:z1Q k σ v cs n) (live:σ.Live):∀ b∈z3 v,b<σ.next:=by
 rcases h with ⟨rfl,_⟩ | ⟨b,rfl,hg,_⟩
 · intro b hb;simp [z3] at hb
 · intro c hc;simp [z3] at hc;subst hc;exact live.lt hg
theorem z1Q.one {k n:Nat} {σ:Mem} {v:AV} {cs:List AV} (h:z1Q k σ v cs n):v.one=true:=by
 rcases h with ⟨rfl,_⟩ | ⟨b,rfl,_⟩<;>rfl
theorem z1Q.append {k bytes id n m:Nat} {σ:Mem} {v x:AV} {cs c:List AV} {K:AV->Mem->Prop} (h:z1Q k σ v cs n) (hx:∀ K:Nat->List AV->Prop,K m c->zlj σ k x K) (hm:m=0->c=[]) (hc:c.length=m*k)
 (h1:c.all AV.one=true) (h2:cs.all AV.one=true) (hr:(n+m)*bytes<=140737488355328/\n+m<=9223372036854775806) (hid:id ∉ z3 v)
 (hk:∀ v' σ',z1Q k σ' v' (cs++c) (n+m)->σ'.next=σ.next->(∀ b,b ∉ z3 v->b≠id->σ'.get b=σ.get b)->(∀ b∈z3 v',b∈z3 v\/b=id)->K v' σ'):apW k bytes id σ v x K:=by
 unfold apW
 refine hx _ ⟨h1,?_⟩
 rcases h with ⟨rfl,rfl,rfl⟩ | ⟨b,rfl,hg,hl⟩
 · refine ⟨λe=>?_,λe=>⟨by rw [Nat.zero_add] at hr;exact hr,?_⟩⟩
   · subst e
     have:=hm rfl
     subst this
     exact hk _ _ (.inl ⟨rfl,rfl,rfl⟩) rfl (λ_ _ _=>rfl) (λb hb=>.inl hb)
   · refine hk _ _ (.inr ⟨id,by simp,by simp [Mem.get_put_self],by simp [hc]⟩) rfl (λb _ hb=>Mem.get_put_ne _ hb _) (λb hb=>?_)
     simp [z3] at hb;exact .inr hb
 · refine ⟨λe=>?_,λe=>?_⟩
   · subst e
     have:=hm rfl
     subst this
     exact hk _ _ (.inr ⟨b,rfl,by simpa using hg,by simpa using hl⟩) rfl (λ_ _ _=>rfl) (λb hb=>.inl hb)
   · refine opt hg ?_
     refine ⟨⟨rfl,rfl,Nat.le_of_eq hl.symm⟩,hr,h2,?_⟩
     rw [<- hl,List.take_length]
     refine hk _ _ (.inr ⟨id,by simp,by simp [Mem.get_put_self],?_⟩) rfl (λb' hb' hb=>?_) (λb hb=>?_)
     · rw [List.length_append,hl,hc,Nat.add_mul]
     · simp [z3] at hb'
       rw [Mem.get_put_ne _ hb,Mem.get_put_ne _ hb']
     · simp [z3] at hb;exact .inr hb
theorem z6R {σ:Mem} {k b n m:Nat} {c:Cap} {l:List AV} (h:σ.get b=some (.rw l)) (hl:l.length=m*k) (hn:n=m) (K:Nat->List AV->Prop) (hk:K m l):zlj σ k (.slice b 0 n c) K:=by
 subst hn
 refine opt (a:=σ.cells b 0 (n*k)) (v:=l) ?_ hk
 rw [Mem.cells_of h,if_pos (by omega),List.drop_zero,<- hl,List.take_length]
theorem zin {σ:Mem} {s:ByteArray} (K:Nat->List AV->Prop) (hk:K s.size (bl (zI s))):zlj σ 1 (.str s) K:=⟨rfl,hk⟩
theorem z1Q.bstr {σ:Mem} {v:AV} {l:List UInt8} {n:Nat} {K:ByteArray->Prop} (h:z1Q 1 σ v (bl l) n) (hk:K ⟨l.toArray⟩):zeL σ v K:=by
 rcases h with ⟨rfl,_,h⟩ | ⟨b,rfl,hg,hl⟩
 · have:l=[]:=by simpa [bl] using h
   subst this;exact hk
 · exact zg5 hg (by rw [z5K] at hl;omega) hk
structure Grow (o o':List Nat) (σ σ':Mem):Prop where
 only:Mem.Only o σ σ'
 new:∀ b∈o',b∈o\/σ.next<=b
 lt:∀ b∈o',b<σ'.next
theorem Grow.refl {o:List Nat} {σ:Mem} (h:∀ b∈o,b<σ.next):Grow o o σ σ:=⟨.refl _ _,λ_ hb=>.inl hb,h⟩
theorem Grow.trans {o o' o'':List Nat} {σ σ' σ'':Mem} (h:Grow o o' σ σ') (h':Grow o' o'' σ' σ''):Grow o o'' σ σ'':=by
 refine ⟨⟨Nat.le_trans h.only.next h'.only.next,λb hb hn=>?_⟩,λb hb=>?_,h'.lt⟩
 · refine (h'.only.get b (Nat.lt_of_lt_of_le hb h.only.next) λhm=>?_).trans (h.only.get b hb hn)
   rcases h.new b hm with h1 | h1
   · exact hn h1
   · omega
 · rcases h'.new b hb with h1 | h1
   · exact h.new b h1
   · exact .inr (Nat.le_trans h.only.next h1)
theorem Grow.bump {o o':List Nat} {σ σ':Mem} (h:Grow o o' σ σ') (n:Nat):Grow o o' σ (σ'.bump n):=⟨h.only.bump n,h.new,λb hb=>Nat.lt_of_lt_of_le (h.lt b hb) (Nat.le_add_right _ _)⟩
theorem Grow.ob {o o':List Nat} {σ σ':Mem} {n:Nat} (h:Grow o o' (σ.bump n) σ'):Grow o o' σ σ':=⟨h.only.ob,λb hb=>(h.new b hb).imp id λh=>Nat.le_trans (Nat.le_add_right _ _) h,h.lt⟩
theorem Grow.then {o o':List Nat} {σ σ' σ'':Mem} (h:Grow o o' σ σ') (h':σ'.Same σ''):Grow o o' σ σ'':=⟨h.only.then h',h.new,λb hb=>Nat.lt_of_lt_of_le (h.lt b hb) h'.next⟩
theorem Grow.apart {o o' p:List Nat} {σ σ':Mem} (h:Grow o o' σ σ') (hp:∀ b∈p,b<σ.next/\b ∉ o):(∀ b∈p,b<σ'.next/\b ∉ o')/\∀ b∈p,σ'.get b=σ.get b:=by
 refine ⟨λb hb=>⟨Nat.lt_of_lt_of_le (hp b hb).1 h.only.next,λhm=>?_⟩,λb hb=>h.only.get b (hp b hb).1 (hp b hb).2⟩
 have:=hp b hb
 rcases h.new b hm with h1 | h1
 · exact this.2 h1
 · omega
end Go.Vit
end
section
namespace Go.Vit
def wb (W k:Nat):List UInt8:=(List.range k).map λi=>UInt8.ofNat (W / 2^(8*i) % 256)
theorem z44 (W k:Nat):(wb W k).length=k:=by simp [wb]
theorem za4 (W k:Nat):wb W (k+1)=wb W k++[UInt8.ofNat (W / 2^(8*k) % 256)]:=by simp [wb,List.range_succ]
theorem zlq {W k i:Nat} (h:i<k):(wb W k)[i]? = some (UInt8.ofNat (W / 2^(8*i) % 256)):=by
 simp [wb,List.getElem?_range h]
theorem z3E (W x:Nat) {N m:Nat} (h:m<=N):(W+x*2^N) / 2^m=W / 2^m+x*2^(N-m):=by
 obtain ⟨d,rfl⟩:=Nat.exists_eq_add_of_le h
 rw [Nat.add_sub_cancel_left,Nat.pow_add,show x*(2^m*2^d)=2^m*(x*2^d) from by rw [Nat.mul_left_comm],Nat.add_mul_div_left _ _ (Nat.pow_pos (by decide))]
theorem zdP {x d:Nat} (h:8<=d):x*2^d % 256=0:=by
 obtain ⟨e,rfl⟩:=Nat.exists_eq_add_of_le h
 rw [Nat.pow_add,show x*(2^8*2^e)=256*(x*2^e) from by rw [Nat.mul_left_comm]]
 exact Nat.mul_mod_right _ _
theorem zm2 {W x k N:Nat} (h:8*k<=N):wb (W+x*2^N) k=wb W k:=by
 unfold wb
 refine List.map_congr_left λi hi=>?_
 have hi:=List.mem_range.1 hi
 rw [z3E W x (by omega),Nat.add_mod,zdP (by omega),Nat.add_zero,Nat.mod_mod]
theorem ziv (W k:Nat) (x:UInt8):(wb W (k+1)).set k x=wb W k++[x]:=by
 rw [za4,List.set_append_right _ _ (by rw [z44];omega),z44,Nat.sub_self];rfl
theorem zmX (y:Nat):bl [UInt8.ofNat (y % 256)]=[AV.int .u8 ((y:Int) % 256)]:=by
 simp [bl,UInt8.toNat_ofNat']
theorem zbU {W N m:Nat} (h:W<2^N) (hm:m<=N):W / 2^m<2^(N-m):=by
 rw [Nat.div_lt_iff_lt_mul (Nat.pow_pos (by decide)),<- Nat.pow_add,Nat.sub_add_cancel hm];exact h
def text (W N:Nat):ByteArray:=⟨(wb W ((N+7) / 8)).toArray⟩
theorem z5X (W N:Nat):(text W N).size=(N+7) / 8:=by unfold text;rw [zj3,z44]
theorem zdf {W N i:Nat} (h:i<(N+7) / 8):ze (text W N) i=W / 2^(8*i) % 256:=by
 unfold text
 rw [zlG,zlq h,Option.getD_some,UInt8.toNat_ofNat',Nat.mod_mod_of_dvd _ (by decide)]
theorem zp1 (a:Nat) {m j:Nat} (h:j<m):a % 2^m / 2^j % 2=a / 2^j % 2:=by
 have:=Nat.testBit_mod_two_pow a m j
 rw [Nat.testBit_eq_decide_div_mod_eq,Nat.testBit_eq_decide_div_mod_eq,decide_eq_true h,Bool.true_and] at this
 have:=decide_eq_decide.1 this
 have h1:=Nat.mod_two_eq_zero_or_one (a % 2^m / 2^j)
 have h2:=Nat.mod_two_eq_zero_or_one (a / 2^j)
 omega
theorem zkB {W N i:Nat} (h:i<8*((N+7) / 8)):z2T (text W N) i=W / 2^i % 2:=by
 unfold z2T
 rw [zdf (by omega),show 256=2^8 from rfl,zp1 _ (by omega),Nat.div_div_eq_div_mul,<- Nat.pow_add,show 8*(i / 8)+i % 8=i from by omega]
theorem zk1 {W N at':Nat}:∀ {n:Nat},at'+n<=8*((N+7) / 8)->val (text W N) at' n=W / 2^at' % 2^n
 | 0,_=>by simp [val,Nat.mod_one]
 | n+1,h=>by
   rw [val,zk1 (by omega),zkB (by omega),Nat.mod_pow_succ,Nat.div_div_eq_div_mul,<- Nat.pow_add,Nat.mul_comm (2^n)]
def num (s:ByteArray):Nat:=val s 0 (8*s.size)
theorem zqb (s:ByteArray):num s<2^(8*s.size):=zcr _ _ _
theorem zjA (s:ByteArray) {i:Nat} (h:i<s.size):num s / 2^(8*i) % 256=ze s i:=by
 unfold num
 rw [zn2 s 0 (by omega),show 256=2^8 from rfl,zmr _ _ (by omega),Nat.zero_add,zjX]
theorem zqi (s:ByteArray):wb (num s) s.size=zI s:=by
 refine List.ext_getElem? λi=>?_
 rcases Nat.lt_or_ge i s.size with h | h
 · rw [zlq h,zjA s h,zfg h]
 · rw [List.getElem?_eq_none (by rw [z44];exact h),List.getElem?_eq_none (by rw [zL];exact h)]
theorem zlS {W k:Nat} (x m:Nat) (h:W<2^(8*k)):wb (W+x*2^(8*k)) (k+m)=wb W k++wb x m:=by
 induction m with
 | zero=>rw [Nat.add_zero,zm2 (Nat.le_refl _)];simp [wb]
 | succ m ih=>
   rw [<- Nat.add_assoc,za4,ih,za4,List.append_assoc]
   congr 4
   rw [Nat.mul_add,Nat.pow_add,<- Nat.div_div_eq_div_mul,z3E W x (Nat.le_refl _),Nat.sub_self,Nat.pow_zero,Nat.mul_one,Nat.div_eq_of_lt h,Nat.zero_add]
def lay (W N:Nat) (v n:Int):Nat×Nat:=
 if n<0\/24<n then (W,N) else (W+(v % 2^n.toNat).toNat*2^N,N+n.toNat)
theorem z9e (v:Int) (n:Nat):(v % 2^n).toNat<2^n:=by
 have h:(0:Int)<2^n:=Int.pow_pos (by decide)
 have h1:=Int.emod_nonneg v (Int.ne_of_gt h)
 have h2:=Int.emod_lt_of_pos v h
 have:((2:Int)^n)=((2^n:Nat):Int):=by simp
 omega
theorem zjj {W N:Nat} (v n:Int) (h:W<2^N):(lay W N v n).1<2^(lay W N v n).2:=by
 unfold lay
 split
 · exact h
 · dsimp only
   have hx:=z9e v n.toNat
   rw [Nat.pow_add]
   generalize (v % 2^n.toNat).toNat=x at *
   calc W+x*2^N<2^N+x*2^N:=by omega
    _=(x+1)*2^N:=by rw [Nat.add_mul,Nat.one_mul,Nat.add_comm]
    _<=2^n.toNat*2^N:=Nat.mul_le_mul_right _ hx
    _=_:=Nat.mul_comm _ _
theorem zb0 {v:Int} {n:Nat} (h1 : -9223372036854775808<=v) (h2:v<=9223372036854775807) (hn:n<=62):zB .and .i64 v ((2^n-1:Nat):Int)=(((v % 2^n).toNat:Nat):Int):=by
 show IntKind.i64.wrap (((BitVec.ofInt 64 v &&& BitVec.ofInt 64 ((2^n-1:Nat):Int)).toNat:Nat):Int)=_
 have hp:2^n<=2^62:=z1D hn
 have hp1:=Nat.pow_pos (n:=n) (show 0<2 by decide)
 rw [zaz (by omega),BitVec.toNat_and,BitVec.toNat_ofNat,Nat.mod_eq_of_lt (by omega:2^n-1<2^64),Nat.and_two_pow_sub_one_eq_mod,BitVec.toNat_ofInt]
 have e:(v % ((2^64:Nat):Int)).toNat % 2^n=(v % 2^n).toNat:=by
  have h0:0<=v % ((2^64:Nat):Int):=Int.emod_nonneg _ (by decide)
  have:(((v % ((2^64:Nat):Int)).toNat % 2^n:Nat):Int)=((v % 2^n).toNat:Int):=by
   rw [Int.natCast_emod,Int.toNat_of_nonneg h0,Int.toNat_of_nonneg (Int.emod_nonneg _ (Int.ne_of_gt (Int.pow_pos (by decide))))]
   have hd:((2^n:Nat):Int) ∣ ((2^64:Nat):Int):=Int.ofNat_dvd.2 (Nat.pow_dvd_pow 2 (by omega))
   rw [Int.emod_emod_of_dvd _ hd];simp
  exact Int.ofNat_inj.1 this
 rw [e]
 exact zg0 (Nat.lt_of_lt_of_le (z9e v n) (Nat.le_trans hp (by decide)))
def zjT (W N:Nat) (s:ByteArray):Nat×Nat:=(W+num s*2^(8*((N+7) / 8)),8*((N+7) / 8)+8*s.size)
theorem zm4 {W N:Nat} (s:ByteArray) (h:W<2^N):(zjT W N s).1<2^(zjT W N s).2:=by
 unfold zjT
 dsimp only
 have h1:W<2^(8*((N+7) / 8)):=Nat.lt_of_lt_of_le h (z1D (by omega))
 have h2:=zqb s
 generalize num s=x at *
 rw [Nat.pow_add]
 generalize 2^(8*((N+7) / 8))=p at *
 calc W+x*p<p+x*p:=by omega
  _=(x+1)*p:=by rw [Nat.add_mul,Nat.one_mul,Nat.add_comm]
  _<=2^(8*s.size)*p:=Nat.mul_le_mul_right _ h2
  _=_:=Nat.mul_comm _ _
theorem zjc (W N:Nat) {n:Nat} (hn:n<=24):lay W N 0 n=(W,N+n):=by
 rw [lay,if_neg (by omega),Int.toNat_natCast];simp
end Go.Vit
end
