/- Running closed code: an evaluator with fuel, and that what it comes to is what the code comes to. -/
import Derived.Test.YtloeboiajgfigaaGreatVm1
set_option linter.unusedVariables false
set_option linter.unusedSimpArgs false
namespace Go.Vit
mutual
def AV.eqb:AV->AV->Bool
 | .bool a,.bool b=>a == b
 | .int k a,.int k' b=>decide (k=k')&&decide (a=b)
 | .str a,.str b=>a.data.toList == b.data.toList
 | .nilp,.nilp=>true
 | .ptr b o,.ptr b' o'=>Nat.beq b b'&&Nat.beq o o'
 | .nils,.nils=>true
 | .slice b o n (.ex k),.slice b' o' n' (.ex k')=>Nat.beq b b'&&Nat.beq o o'&&Nat.beq n n'&&Nat.beq k k'
 | .slice b o n (.op k),.slice b' o' n' (.op k')=>Nat.beq b b'&&Nat.beq o o'&&Nat.beq n n'&&Nat.beq k k'
 | .nilm,.nilm=>true
 | .map b,.map b'=>Nat.beq b b'
 | .nilf,.nilf=>true
 | .func f l,.func g m=>Nat.beq f g&&AV.eqbL l m
 | .agg l,.agg m=>AV.eqbL l m
 | .tup l,.tup m=>AV.eqbL l m
 | .nili,.nili=>true
 | .iface t v,.iface t' v'=>Nat.beq t t'&&AV.eqb v v'
 | _,_=>false
def AV.eqbL:List AV->List AV->Bool
 | [],[]=>true
 | a::l,b::m=>AV.eqb a b&&AV.eqbL l m
 | _,_=>false
end
theorem znj {a b:ByteArray} (h:a.data=b.data):a=b:=by
 cases a;cases b;simp at h;subst h;rfl
mutual
theorem AV.eqb_eq:∀ (a b:AV),AV.eqb a b=true->a=b
 | .bool _,b,h=>by cases b<;>simp_all [AV.eqb]
 | .int _ _,b,h=>by cases b<;>simp_all [AV.eqb]
 | .str _,b,h=>by
   cases b<;>simp [AV.eqb] at h
   rw [znj h]
 | .nilp,b,h=>by cases b<;>simp_all [AV.eqb]
 | .ptr _ _,b,h=>by cases b<;>simp_all [AV.eqb]
 | .nils,b,h=>by cases b<;>simp_all [AV.eqb]
 | .slice _ _ _ c,b,h=>by
   cases b
   case slice b' o' n' c'=>cases c<;>cases c'<;>simp_all [AV.eqb]
   all_goals cases c<;>simp [AV.eqb] at h
 | .nilm,b,h=>by cases b<;>simp_all [AV.eqb]
 | .map _,b,h=>by cases b<;>simp_all [AV.eqb]
 | .nilf,b,h=>by cases b<;>simp_all [AV.eqb]
 | .func f l,b,h=>by
   cases b<;>simp [AV.eqb] at h
   rw [h.1,AV.eqbL_eq _ _ h.2]
 | .agg l,b,h=>by
   cases b<;>simp [AV.eqb] at h
   rw [AV.eqbL_eq _ _ h]
 | .tup l,b,h=>by
   cases b<;>simp [AV.eqb] at h
   rw [AV.eqbL_eq _ _ h]
 | .nili,b,h=>by cases b<;>simp_all [AV.eqb]
 | .iface t v,b,h=>by
   cases b<;>simp [AV.eqb] at h
   rw [h.1,AV.eqb_eq _ _ h.2]
theorem AV.eqbL_eq:∀ (a b:List AV),AV.eqbL a b=true->a=b
 | [],b,h=>by cases b<;>simp_all [AV.eqbL]
 | a::l,b,h=>by
   cases b with
   | nil=>simp [AV.eqbL] at h
   | cons b m=>
     simp only [AV.eqbL,Bool.and_eq_true] at h
     rw [AV.eqb_eq _ _ h.1,AV.eqbL_eq _ _ h.2]
end
def zg2 (id:Nat) (q:AOp) (t:Tmps) (σ σ':Mem):Bool:=
 match nop id q t σ',nop id q t σ with
 | some (a,none),some (b,none)=>AV.eqb a b
 | none,none=>true
 | _,_=>false
theorem ziA {id:Nat} {q:AOp} {t:Tmps} {σ σ':Mem} (h:zg2 id q t σ σ'=true):nop id q t σ'=nop id q t σ:=by
 unfold zg2 at h
 split at h
 · rename_i h1 h2
   rw [h1,h2,AV.eqb_eq _ _ h]
 · rename_i h1 h2;rw [h1,h2]
 · cases h
def zgy (base:Nat) (t:Tmps) (σ σ':Mem):List (Nat×AOp)->Bool
 | []=>true
 | q::r=>zg2 (base+q.1) q.2 t σ σ'&&zgy base t σ σ' r
theorem zf9 {base:Nat} {t:Tmps} {σ σ':Mem}:∀ {l:List (Nat×AOp)},zgy base t σ σ' l=true->Floats base t σ σ' l
 | [],_=>trivial
 | q::r,h=>by
   simp only [zgy,Bool.and_eq_true] at h
   exact ⟨ziA h.1,zf9 h.2⟩
abbrev z5v:=Nat->List AV->Mem->Option (AV×Mem)
def z9U:z5v:=λ_ _ _=>none
abbrev zpz:=AOpd->List Nat->ACode->ACode->Tmps->Mem->Option Mem
def zoQ:zpz:=λ_ _ _ _ _ _=>none
def zfc (call yf:z5v) (id:Nat) (op:AOp) (t:Tmps) (σ:Mem):Option (AV×Mem):=
 match op with
 | .call f xs=>(evs t xs).bind λl=>call f l σ
 | .callv x xs=>match x.ev t with
   | some (.func f c)=>(evs t xs).bind λl=>call f (l++c) σ
   | some (.yld b)=>(evs t xs).bind λl=>yf b l σ
   | _=>none
 | op=>match op.eff with
   | true=>eop id op t σ
   | false=>match nop id op t σ with
     | some r=>some (r.1,σ.add id r.2)
     | none=>none
def za9 (call yf:z5v) (base:Nat):List RegE->Tmps->Mem->Option (Tmps×Mem)
 | [],t,σ=>some (t,σ)
 | p::rest,t,σ=>match gval t p.o.g with
   | some true=>match zfc call yf (base+p.i) p.o.op t σ with
     | some r=>match zgy base t σ r.2 p.fl with
       | true=>za9 call yf base rest (Tmps.set t p.o.d r.1) r.2
       | false=>none
     | none=>none
   | some false=>za9 call yf base rest (Tmps.set t p.o.d (.tup [])) σ
   | none=>none
def zlD (t:Tmps) (p q:RegE):Bool:=
 match p.o,q.o with
 | ⟨none,none,.store _ a _⟩,⟨none,none,.store _ b _⟩=>match a.ev t,b.ev t with
   | some (.ptr x _),some (.ptr y _)=>!Nat.beq x y
   | _,_=>false
 | _,_=>false
def z0d (call:z5v) (rng:zpz) (yf:z5v):Nat->ACode->Tmps->Mem->Option (Exit×Tmps×Mem)
 | 0,_,_,_=>none
 | n+1,c,t,σ=>match c with
   | .skip=>some (.normal,t,σ)
   | .region k ops=>match za9 call yf σ.next ops t (σ.bump k) with
     | some r=>some (.normal,r.1,r.2)
     | none=>none
   | .seq x y=>match z0d call rng yf n x t σ with
     | some (.normal,t',σ')=>z0d call rng yf n y t' σ'
     | r=>r
   | .cond c x y=>match c.ev t with
     | some (.bool true)=>z0d call rng yf n x t σ
     | some (.bool false)=>z0d call rng yf n y t σ
     | _=>none
   | .block id x=>match z0d call rng yf n x t σ with
     | some (.exit id',t',σ')=>match Nat.beq id' id with
       | true=>some (.normal,t',σ')
       | false=>some (.exit id',t',σ')
     | r=>r
   | .loop x=>match z0d call rng yf n x t σ with
     | some (.normal,t',σ')=>z0d call rng yf n (.loop x) t' σ'
     | r=>r
   | .exit id=>some (.exit id,t,σ)
   | .ret=>some (.ret,t,σ)
   | .scope x=>z0d call rng yf n x t σ
   | .forget ks=>some (.normal,Tmps.keep t ks,σ)
   | .range g ps a b=>match rng g ps a b t σ with
     | some σ'=>some (.normal,t,σ')
     | none=>none
   | .regionX k ops p q fq fp=>match za9 call yf σ.next ops t (σ.bump k) with
     | some r=>match zlD r.1 p q with
       | true=>match za9 call yf σ.next [p,q] r.1 r.2 with
         | some a=>match za9 call yf σ.next [⟨q.i,q.o,fq⟩,⟨p.i,p.o,fp⟩] r.1 r.2 with
           | some _=>some (.normal,a.1,a.2)
           | none=>none
         | none=>none
       | false=>none
     | none=>none
   | .stuck=>none
def zix (call:z5v) (N:Nat) (b:Nat) (ps:List Nat) (x y:ACode) (t:Tmps):z5v:=λb' args σ=>
 match Nat.beq b' b&&Nat.beq args.length ps.length with
 | true=>(match z0d call zoQ z9U N x (Tmps.fill t ps args) σ with
   | some (.normal,t1,σ1)=>(match z0d call zoQ z9U N y t1 σ1 with
     | some (.normal,_,σ2)=>some (.bool true,σ2)
     | _=>none)
   | _=>none)
 | false=>none
def zpo (callY:z5v->z5v) (N:Nat):zpz:=λg ps x y t σ=>
 match g.ev t with
 | some (.func f c)=>(match callY (zix (callY z9U) N σ.next ps x y t) f (.yld σ.next::c) (σ.bump 1) with
   | some (_,σ')=>some σ'
   | none=>none)
 | _=>none
def zaa (tbl:Nat->Option AFunc) (orc:z5v) (N:Nat):Nat->z5v->z5v
 | 0,_,_,_,_=>none
 | d+1,yf,f,args,σ=>match tbl f with
   | some af=>match Nat.ble args.length af.N with
     | true=>match z0d (zaa tbl orc N d z9U) (zpo (zaa tbl orc N d) N) yf N af.body (ziM args 0 .leaf) σ with
       | some (.normal,t',σ')=>match evr t' σ' af.res with
         | some l=>some (zie l,σ')
         | none=>none
       | some (.ret,t',σ')=>match evr t' σ' af.res with
         | some l=>some (zie l,σ')
         | none=>none
       | _=>none
     | false=>none
   | none=>orc f args σ
def zln (tbl:Nat->Option AFunc) (orc:z5v) (N:Nat) (D:Nat):z5v:=zaa tbl orc N D z9U
theorem ziY {call:z5v} {rng:zpz} {yf:z5v}:∀ {n m:Nat} {c:ACode} {t:Tmps} {σ:Mem} {r:Exit×Tmps×Mem},z0d call rng yf n c t σ=some r->n<=m->z0d call rng yf m c t σ=some r:=by
 intro n
 induction n with
 | zero=>intro m c t σ r h;simp [z0d] at h
 | succ n ih=>
   intro m c t σ r h hle
   obtain ⟨m,rfl⟩:∃ k,m=k+1:=⟨m-1,by omega⟩
   have hle':n<=m:=by omega
   cases c with
   | skip=>exact h
   | region k ops=>exact h
   | exit id=>exact h
   | ret=>exact h
   | stuck=>exact h
   | forget ks=>exact h
   | range g ps x y=>exact h
   | regionX k ops p q fq fp=>exact h
   | scope x=>exact ih (c:=x) h hle'
   | seq x y=>
     simp only [z0d] at h ⊢
     split at h
     · rename_i t1 σ1 hx
       rw [ih hx hle']
       exact ih h hle'
     · rename_i hno
       rw [ih h hle']
       obtain ⟨e,t1,σ1⟩:=r
       cases e with
       | normal=>exact absurd h (hno _ _)
       | _=>rfl
   | cond c x y=>
     simp only [z0d] at h ⊢
     split at h
     · exact ih h hle'
     · exact ih h hle'
     · cases h
   | block id x=>
     simp only [z0d] at h ⊢
     split at h
     · rename_i hx
       rw [ih hx hle']
       exact h
     · rename_i hno
       rw [ih h hle']
       obtain ⟨e,t1,σ1⟩:=r
       cases e with
       | exit id'=>exact absurd h (hno _ _ _)
       | _=>rfl
   | loop x=>
     simp only [z0d] at h ⊢
     split at h
     · rename_i t1 σ1 hx
       rw [ih hx hle']
       exact ih h hle'
     · rename_i hno
       rw [ih h hle']
       obtain ⟨e,t1,σ1⟩:=r
       cases e with
       | normal=>exact absurd h (hno _ _)
       | _=>rfl
section
variable {P:Program} {Y:z6a} {call yf:z5v} {rng:zpz} {t t':Tmps} {σ σ':Mem}
def zaS (P:Program) (call:z5v):Prop:=∀ f args σ v σ',call f args σ=some (v,σ')->z1 P f args σ λu τ=>u=v/\τ=σ'
def YFOk (yf:z5v) (Y:z6a):Prop:=∀ b args σ v σ',yf b args σ=some (v,σ')->∃ T,Y b=some T/\T args σ λu τ=>u=v/\τ=σ'
def zp4 (P:Program) (rng:zpz):Prop:=∀ g ps x y t σ σ',rng g ps x y t σ=some σ'->∀ (Y:z6a) (Q:z0n),Q .normal t σ'->AW P Y (.range g ps x y) Q t σ
theorem YFOk.no:YFOk z9U noY:=λb args σ v σ' h=>by cases h
theorem zm1 (hc:zaS P call) (hy:YFOk yf Y) {id:Nat} {op:AOp} {v:AV} {k:AV->Mem->Prop} (h:zfc call yf id op t σ=some (v,σ')) (hk:k v σ'):z24 P Y id op t σ k:=by
 have hq:∀ u τ,u=v/\τ=σ'->k u τ:=λu τ ⟨e1,e2⟩=>by subst e1;subst e2;exact hk
 cases op
 case call f xs=>
  simp only [zfc,Option.bind_eq_some_iff] at h
  obtain ⟨l,hl,h⟩:=h
  simp only [z24,hl]
  exact (hc _ _ _ _ _ h).mono hq
 case callv x xs=>
  simp only [zfc] at h
  split at h
  · rename_i f c hx
    simp only [Option.bind_eq_some_iff] at h
    obtain ⟨l,hl,h⟩:=h
    simp only [z24,hx,hl]
    exact (hc _ _ _ _ _ h).mono hq
  · rename_i b hx
    simp only [Option.bind_eq_some_iff] at h
    obtain ⟨l,hl,h⟩:=h
    obtain ⟨T,hT,h⟩:=hy _ _ _ _ _ h
    simp only [z24,hx,hl,hT]
    exact ⟨_,h,hq⟩
  · cases h
 all_goals
  simp only [zfc] at h
  simp only [z24]
  split at h
  · rename_i he
    rw [if_pos he]
    rw [h]
    exact hk
  · rename_i he
    rw [if_neg (by simp [he])]
    split at h
    · rename_i r hr
      rw [hr]
      cases h
      exact hk
    · cases h
theorem z9c (hc:zaS P call) (hy:YFOk yf Y) {base:Nat} {K:Tmps->Mem->Prop}:∀ {l:List RegE} {t:Tmps} {σ:Mem},za9 call yf base l t σ=some (t',σ')->K t' σ'->z4M P Y base K l t σ
 | [],t,σ,h,hK=>by simp [za9] at h;obtain ⟨rfl,rfl⟩:=h;exact hK
 | p::l,t,σ,h,hK=>by
   simp only [za9] at h
   simp only [z4M]
   split at h
   · rename_i hg
     rw [hg]
     split at h
     · rename_i r hr
       obtain ⟨v,σ1⟩:=r
       split at h
       · rename_i hf
         exact zm1 hc hy hr ⟨zf9 hf,z9c hc hy h hK⟩
       · cases h
     · cases h
   · rename_i hg
     rw [hg]
     exact z9c hc hy h hK
   · cases h
theorem zdK {α:Type}:∀ (f g:Nat) (t:Tr α) (n m:Nat) (o o':Option α),n≠m->n<f->m<g->Tr.putF g (Tr.putF f t n o) m o'=Tr.putF f (Tr.putF g t m o') n o
 | 0,_,_,_,_,_,_,_,h,_=>absurd h (Nat.not_lt_zero _)
 | _+1,0,_,_,_,_,_,_,_,h=>absurd h (Nat.not_lt_zero _)
 | f+1,g+1,t,n,m,o,o',hne,hf,hg=>by
   cases n with
   | zero=>
     cases m with
     | zero=>exact absurd rfl hne
     | succ m=>
       rw [Tr.putF_succ,Tr.putF_succ]
       split<;>rfl
   | succ n=>
     cases m with
     | zero=>
       rw [Tr.putF_succ,Tr.putF_succ]
       split<;>rfl
     | succ m=>
       rw [Tr.putF_succ,Tr.putF_succ,Tr.putF_succ,Tr.putF_succ]
       by_cases h1:n % 2=0
       · by_cases h2:m % 2=0
         · simp only [if_pos h1,if_pos h2]
           exact congrArg (λx=>Tr.node t.val x t.rt) (zdK f g t.lt (n / 2) (m / 2) o o' (by omega) (by omega) (by omega))
         · simp only [if_pos h1,if_neg h2]
           rfl
       · by_cases h2:m % 2=0
         · simp only [if_neg h1,if_pos h2]
           rfl
         · simp only [if_neg h1,if_neg h2]
           exact congrArg (λx=>Tr.node t.val t.lt x) (zdK f g t.rt (n / 2) (m / 2) o o' (by omega) (by omega) (by omega))
theorem Mem.put_comm (σ:Mem) {b b':Nat} (h:b≠b') (o o':Option Blk):(σ.put b o).put b' o'=(σ.put b' o').put b o:=by
 unfold Mem.put Tr.put
 rw [zdK _ _ _ _ _ _ _ h (Nat.lt_succ_self _) (Nat.lt_succ_self _)]
theorem zn5 {id n:Nat} {a x:AOpd} {b o:Nat} {r:AV×Mem} (ha:a.ev t=some (.ptr b o)) (h:eop id (.store n a x) t σ=some r) :
 ∃ v c,x.ev t=some v/\σ.get b=some (.rw c)/\r=(.tup [],σ.put b (some (.rw (setAt c o v.cells)))):=by
 simp only [eop,ha,Option.bind_some,Option.bind_eq_some_iff] at h
 obtain ⟨v,hv,h⟩:=h
 split at h
 · rename_i c hc
   split at h
   · cases h;exact ⟨v,c,hv,hc,rfl⟩
   · cases h
 · cases h
theorem z7G {base i n:Nat} {a x:AOpd} {fl:List (Nat×AOp)} {l:List RegE} {b o:Nat} {r:Tmps×Mem} (ha:a.ev t=some (.ptr b o)) (h:za9 call yf base (⟨i,⟨none,none,.store n a x⟩,fl⟩::l) t σ=some r) :
 ∃ v c,x.ev t=some v/\σ.get b=some (.rw c)/\za9 call yf base l t (σ.put b (some (.rw (setAt c o v.cells))))=some r:=by
 simp only [za9,gval,zfc,AOp.eff] at h
 split at h
 · rename_i r1 hr
   obtain ⟨v,c,h1,h2,h3⟩:=zn5 ha hr
   subst h3
   split at h
   · exact ⟨v,c,h1,h2,h⟩
   · cases h
 · cases h
theorem zl4 {base:Nat} {p q:RegE} {fq fp:List (Nat×AOp)} {r1 r2:Tmps×Mem} (h:zlD t p q=true) (h1:za9 call yf base [p,q] t σ=some r1) (h2:za9 call yf base [⟨q.i,q.o,fq⟩,⟨p.i,p.o,fp⟩] t σ=some r2):r1=r2:=by
 unfold zlD at h
 split at h
 · rename_i n a x m b y hp hq
   split at h
   · rename_i u o u' o' ha hb
     have hne:u≠u':=λe=>by subst e;simp at h
     obtain ⟨pi,po,pf⟩:=p
     obtain ⟨qi,qo,qf⟩:=q
     simp only at hp hq
     subst hp hq
     obtain ⟨v1,c1,e1,e2,e3⟩:=z7G ha h1
     obtain ⟨v2,c2,f1,f2,f3⟩:=z7G hb e3
     obtain ⟨v3,c3,g1,g2,g3⟩:=z7G hb h2
     obtain ⟨v4,c4,k1,k2,k3⟩:=z7G ha g3
     simp only [za9,Option.some.injEq] at f3 k3
     rw [Mem.get_put_ne _ (Ne.symm hne)] at f2
     rw [Mem.get_put_ne _ hne] at k2
     rw [e1] at k1;rw [f1] at g1;rw [e2] at k2;rw [f2] at g2
     cases k1;cases g1;cases k2;cases g2
     rw [<- f3,<- k3,Mem.put_comm _ hne]
   · cases h
 · cases h
theorem least {p:Nat->Prop}:(∃ n,p n)->∃ m,p m/\∀ k,p k->m<=k:=by
 rintro ⟨n,hn⟩
 induction n using Nat.strongRecOn with
 | _ n ih=>
   rcases Classical.em (∃ k,k<n/\p k) with ⟨k,hk,hpk⟩ | hno
   · exact ih k hk hpk
   · refine ⟨n,hn,λk hk=>?_⟩
     rcases Nat.lt_or_ge k n with h | h
     · exact absurd ⟨k,h,hk⟩ hno
     · exact h
theorem zbo (hc:zaS P call) (hrng:zp4 P rng) (hy:YFOk yf Y):∀ {n:Nat} {c:ACode} {t:Tmps} {σ:Mem} {e:Exit} {Q:z0n},z0d call rng yf n c t σ=some (e,t',σ')->Q e t' σ'->AW P Y c Q t σ:=by
 intro n
 induction n generalizing t' σ' with
 | zero=>intro c t σ e Q h;simp [z0d] at h
 | succ n ih=>
   intro c
   cases c with
   | skip=>intro t σ e Q h hQ;simp [z0d] at h;obtain ⟨rfl,rfl,rfl⟩:=h;exact hQ
   | region k ops=>
     intro t σ e Q h hQ
     simp only [z0d] at h
     split at h
     · rename_i r hr
       cases h
       exact z9c hc hy hr hQ
     · cases h
   | seq x y=>
     intro t σ e Q h hQ
     simp only [z0d] at h
     simp only [AW]
     split at h
     · rename_i t1 σ1 hx
       exact ih hx (show z0n.then _ Q .normal t1 σ1 from ih h hQ)
     · rename_i hno
       refine ih h ?_
       cases e with
       | normal=>exact absurd h (hno _ _)
       | _=>exact hQ
   | cond c x y=>
     intro t σ e Q h hQ
     simp only [z0d] at h
     simp only [AW]
     split at h
     · rename_i hcv
       rw [hcv]
       exact ⟨λ_=>ih h hQ,λe=>by cases e⟩
     · rename_i hcv
       rw [hcv]
       exact ⟨λe=>(by cases e),λ_=>ih h hQ⟩
     · cases h
   | block id x=>
     intro t σ e Q h hQ
     simp only [z0d] at h
     simp only [AW]
     split at h
     · rename_i id' t1 σ1 hx
       split at h
       · rename_i hb
         cases h
         exact ih hx (by simp only [z0n.inBlock];rw [if_pos (Nat.eq_of_beq_eq_true hb)];exact hQ)
       · rename_i hb
         cases h
         exact ih hx (by
          simp only [z0n.inBlock]
          rw [if_neg (λe=>by subst e;simp at hb)];exact hQ)
     · rename_i hno
       refine ih h ?_
       cases e with
       | exit id'=>exact absurd h (hno _ _ _)
       | _=>exact hQ
   | loop x=>
     intro t σ e Q h hQ
     let I:Tmps->Mem->Prop:=λt σ=>∃ m,z0d call rng yf m (.loop x) t σ=some (e,t',σ')/\m<=n+1
     have hI:∀ t σ,I t σ->∃ m,(z0d call rng yf m (.loop x) t σ=some (e,t',σ')/\m<=n+1)/\∀ k,(z0d call rng yf k (.loop x) t σ=some (e,t',σ')/\k<=n+1)->m<=k:=λt σ h=>least h
     let μ:Tmps->Mem->Nat:=λt σ=>@dite Nat (I t σ) (Classical.propDecidable _) (λh=>Classical.choose (hI t σ h)) (λ_=>0)
     refine ⟨I,μ,⟨n+1,h,Nat.le_refl _⟩,λt1 σ1 hi=>?_⟩
     have hm:=Classical.choose_spec (hI t1 σ1 hi)
     have hμ:μ t1 σ1=Classical.choose (hI t1 σ1 hi):=dif_pos hi
     rw [<- hμ] at hm
     obtain ⟨⟨hev,hle⟩,hmin⟩:=hm
     rw [hμ]
     rw [<- hμ]
     generalize hμ1:μ t1 σ1=m at hev hle hmin
     cases m with
     | zero=>simp [z0d] at hev
     | succ k=>
       simp only [z0d] at hev
       have lift:∀ {e1:Exit} {t2:Tmps} {σ2:Mem} {R:z0n},z0d call rng yf k x t1 σ1=some (e1,t2,σ2)->R e1 t2 σ2->AW P Y x R t1 σ1:=by
        intro e1 t2 σ2 R h1 hR
        exact ih (t':=t2) (σ':=σ2) (ziY h1 (by omega)) hR
       split at hev
       · rename_i t2 σ2 hx
         refine lift hx ⟨⟨k,hev,by omega⟩,?_⟩
         have hi2:I t2 σ2:=⟨k,hev,by omega⟩
         have h2:=(Classical.choose_spec (hI t2 σ2 hi2)).2 k ⟨hev,by omega⟩
         have hμ2:μ t2 σ2=Classical.choose (hI t2 σ2 hi2):=dif_pos hi2
         rw [hμ2];omega
       · rename_i hno
         refine lift hev ?_
         cases e with
         | normal=>exact absurd hev (hno _ _)
         | _=>exact hQ
   | exit id=>intro t σ e Q h hQ;simp [z0d] at h;obtain ⟨rfl,rfl,rfl⟩:=h;exact hQ
   | ret=>intro t σ e Q h hQ;simp [z0d] at h;obtain ⟨rfl,rfl,rfl⟩:=h;exact hQ
   | scope x=>
     intro t σ e Q h hQ
     simp only [z0d] at h
     simp only [AW]
     exact ih h hQ
   | forget ks=>intro t σ e Q h hQ;simp [z0d] at h;obtain ⟨rfl,rfl,rfl⟩:=h;exact hQ
   | range g ps x y=>
     intro t σ e Q h hQ
     simp only [z0d] at h
     split at h
     · rename_i σ1 hr
       cases h
       exact hrng _ _ _ _ _ _ _ hr Y Q hQ
     · cases h
   | regionX k ops p q fq fp=>
     intro t σ e Q h hQ
     simp only [z0d] at h
     split at h
     · rename_i r hr
       split at h
       · rename_i hap
         split at h
         · rename_i r1 h1
           split at h
           · rename_i r2 h2
             cases h
             have hsame:=zl4 hap h1 h2
             subst hsame
             exact z9c hc hy hr ⟨z9c hc hy h1 hQ,z9c hc hy h2 hQ⟩
           · cases h
         · cases h
       · cases h
     · cases h
   | stuck=>intro t σ e Q h;simp [z0d] at h
theorem zkg:zp4 P zoQ:=λ_ _ _ _ _ _ _ h=>by cases h
theorem zkY (hc:zaS P call) {N b:Nat} {ps:List Nat} {x y:ACode} {t:Tmps} :
 YFOk (zix call N b ps x y t) (zll b λargs σ' K=>args.length=ps.length/\AW P noY x (z0n.then (λt1 σ1=>AW P noY y (λe _ σ2=>match e with
  | .normal=>K (.bool true) σ2
  | _=>False) t1 σ1) (λ_ _ _=>False)) (Tmps.fill t ps args) σ'):=by
 intro b' args σ v σ' h
 simp only [zix] at h
 split at h
 · rename_i hb
   rw [Bool.and_eq_true] at hb
   obtain rfl:=Nat.eq_of_beq_eq_true hb.1
   refine ⟨_,if_pos rfl,Nat.eq_of_beq_eq_true hb.2,?_⟩
   split at h
   · rename_i t1 σ1 h1
     split at h
     · rename_i t2 σ2 h2
       cases h
       exact zbo hc zkg .no h1 (show z0n.then _ _ .normal t1 σ1 from zbo hc zkg .no h2 ⟨rfl,rfl⟩)
     · cases h
   · cases h
 · cases h
theorem zjM {callY:z5v->z5v} (hc:∀ yf Y,YFOk yf Y->∀ f args σ v σ',callY yf f args σ=some (v,σ')->zY P Y f args σ λu τ=>u=v/\τ=σ') {N:Nat}:zp4 P (zpo callY N):=by
 intro g ps x y t σ σ' h Y Q hQ
 simp only [zpo] at h
 simp only [AW]
 split at h
 · rename_i f c hg
   rw [hg]
   split at h
   · rename_i v σ1 hr
     cases h
     refine (hc _ _ (zkY (P:=P) (λf args σ v σ' h=>(hc _ _ .no f args σ v σ' h).plain)) _ _ _ _ _ hr).mono ?_
     rintro u τ ⟨_,rfl⟩
     exact hQ
   · cases h
 · cases h
theorem zkm {tbl:Nat->Option AFunc} {orc:z5v} (hm:P.follows .mixedOrders=true) (ht:∀ f af,tbl f=some af->z7B P f=some af) (ho:zaS P orc) {N:Nat} :
 ∀ {D:Nat} (yf:z5v) (Y:z6a),YFOk yf Y->∀ f args σ v σ',zaa tbl orc N D yf f args σ=some (v,σ')->zY P Y f args σ λu τ=>u=v/\τ=σ':=by
 intro D
 induction D with
 | zero=>intro yf Y hy f args σ v σ' h;simp [zaa] at h
 | succ D ih=>
   intro yf Y hy f args σ v σ' h
   have hcall:zaS P (zaa tbl orc N D z9U):=λf args σ v σ' h=>(ih _ _ .no f args σ v σ' h).plain
   simp only [zaa] at h
   split at h
   · rename_i af hf
     have hcf:=ht _ _ hf
     split at h
     · rename_i hlen
       refine .of_func hm hcf (Nat.le_of_ble_eq_true hlen) ?_
       split at h
       · rename_i t' σ1 he
         split at h
         · rename_i l hl
           cases h
           exact zbo hcall (zjM ih) hy he (by simp only [z6S,hl];trivial)
         · cases h
       · rename_i t' σ1 he
         split at h
         · rename_i l hl
           cases h
           exact zbo hcall (zjM ih) hy he (by simp only [z6S,hl];trivial)
         · cases h
       · cases h
     · cases h
   · exact (ho _ _ _ _ _ h).any
theorem zlM {tbl:Nat->Option AFunc} {orc:z5v} (hm:P.follows .mixedOrders=true) (ht:∀ f af,tbl f=some af->z7B P f=some af) (ho:zaS P orc) {N:Nat} {D:Nat}:zaS P (zln tbl orc N D):=
 λf args σ v σ' h=>(zkm hm ht ho _ _ .no f args σ v σ' h).plain
theorem zmu:zaS P z9U:=λf args σ v σ' h=>by cases h
/-! ### Calls of closed things, whatever memory stands around -/
def AV.scal:AV->Bool
 | .bool _ | .int _ _ | .str _ | .nilp | .nils | .nilm | .nilf | .nili=>true
 | _=>false
theorem VRel.scal {ρ ρ':Ren} {a:AV} {v:Value} (h:VRel ρ a v) (hs:a.scal=true):VRel ρ' a v:=by
 cases h<;>first | (simp [AV.scal] at hs;done) | constructor
theorem z1g.scal {ρ ρ':Ren} {l:List AV} {vs:Array Value} (h:z1g ρ l vs) (hs:l.all AV.scal=true):z1g ρ' l vs:=
 ⟨h.1,λi a v ha hv=>(h.2 i a v ha hv).scal (List.all_eq_true.1 hs a (List.mem_of_getElem? ha))⟩
theorem z1.closed {f:Nat} {args:List AV} {c:AV} (h:z1 P f args ⟨.leaf,0⟩ λv _=>v=c) (ha:args.all AV.scal=true) (hc:c.scal=true) (σ:Mem) :
 z1 P f args σ λv σ'=>v=c/\σ'=σ:=by
 refine ⟨h.1,λρ w args' st hl=>?_⟩
 have st0:St (λ_=>none) ⟨.leaf,0⟩ w:=⟨λb p h=>(by cases h),λb k h=>(by simp [Mem.get,Tr.get_leaf] at h),λb k p h=>(by simp [Mem.get,Tr.get_leaf] at h),λb b' k k' p p' h=>(by simp [Mem.get,Tr.get_leaf] at h)⟩
 refine (h.2 _ w args' st0 (hl.scal ha)).mono λe w' ⟨v,v',σ',ρ',he,hq,hv,hs⟩=>?_
 subst hq
 have hframe:∀ i,i<w.heap.size->w'.heap[i]? = w.heap[i]? := λi hi=>hs.frame i hi λb k q h1=>by simp [Mem.get,Tr.get_leaf] at h1
 have st':St ρ σ w':=⟨st.dom,st.live,λb k p hk hp=>(st.rel b k p hk hp).move λhsol=>hframe _ ((st.rel b k p hk hp).lt hsol),st.inj⟩
 exact ⟨v,v',σ,ρ,he,⟨rfl,rfl⟩,hv.scal hc,⟨st',Nat.le_refl _,λ_ _ e=>e,λb p e e'=>(by rw [e] at e';cases e'),λb k hk _=>⟨k,hk,rfl⟩,λ_ _ _=>rfl,λi hi _=>hframe i hi,hs.size,hs.os,hs.tape,hs.out⟩⟩
theorem z1.run {f:Nat} {args:List AV} {c:AV} {σ':Mem} (hm:P.follows .mixedOrders=true) (N D:Nat) (h:zln (z7B P) z9U N D f args ⟨.leaf,0⟩=some (c,σ')):z1 P f args ⟨.leaf,0⟩ λv _=>v=c:=
 (zlM hm (λ_ _ h=>h) zmu _ _ _ _ _ h).mono λ_ _ e=>e.1
def zoo (P:Program) (N D f:Nat) (args:List AV) (c:AV):Bool:=
 match zln (z7B P) z9U N D f args ⟨.leaf,0⟩ with
 | some (v,_)=>AV.eqb v c
 | none=>false
theorem z1.runs {f:Nat} {args:List AV} {c:AV} (hm:P.follows .mixedOrders=true) (N D:Nat) (h:zoo P N D f args c=true) (ha:args.all AV.scal=true) (hc:c.scal=true) (σ:Mem) :
 z1 P f args σ λv σ'=>v=c/\σ'=σ:=by
 unfold zoo at h
 split at h
 · rename_i v σ' he
   have:=AV.eqb_eq _ _ h
   subst this
   exact (z1.run hm N D he).closed ha hc σ
 · cases h
end
end Go.Vit
