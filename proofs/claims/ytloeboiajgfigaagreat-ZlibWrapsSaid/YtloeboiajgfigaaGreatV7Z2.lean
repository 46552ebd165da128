/- The law ZlibWraps. -/
import Derived.Test.YtloeboiajgfigaaGreatV7Z1
import Derived.Test.YtloeboiajgfigaaGreatV7E
set_option linter.unusedVariables false
set_option linter.unusedSimpArgs false
set_option maxRecDepth 20000
set_option maxRecDepth 20000
namespace Go.Vit
open Go.Proofs
theorem zku (s:ByteArray) (hs:s.size<=2^50) (σ:Mem):z1 PG z7F [.str s] σ λv σ'=>v=.int .i64 (zdw s)/\σ.Same σ':=by
 refine zfy λ_=>?_
 unfold zaY
 refine loop3 (λ(i:Nat) (a b k:Int) σ'=>a=(z5e s i).1/\b=(z5e s i).2/\k=i/\i<=s.size/\σ.Same σ') (λi=>s.size-i) 0 ⟨by simp [z5e],by simp [z5e],rfl,by omega,(Mem.Same.refl σ).bump _⟩ ?_
 rintro i a b k σ1 ⟨rfl,rfl,rfl,hi,h1⟩
 have hb:=z1T s i
 obtain ⟨ha,hb2⟩:=zhl s i
 unfold z7O
 refine ifD (λhlt=>?_) (λhge=>?_)
 · repeat (first | refine To.go ?_ | with_reducible refine And.intro (by first | omega | exact ⟨rfl,rfl⟩) ?_ | ((with_reducible apply opt);(· (first | with_reducible assumption | rfl))) | ((with_reducible apply ldrw);(· (first | with_reducible assumption | (simp (disch:=omega) only [go_sem, *];try rfl)));(· (first | with_reducible assumption | rfl))) | ((with_reducible apply ldro);(· (first | with_reducible assumption | (simp (disch:=omega) only [go_sem, *];try rfl)));(· (first | with_reducible assumption | rfl))) | ((with_reducible apply st1);(· (first | with_reducible assumption | (simp (disch:=omega) only [go_sem, *];try rfl)));(· simp);(· rfl)) | with_reducible refine ifT rfl ?_ | with_reducible refine ifF (not_not_intro rfl) ?_ | with_reducible refine ifT (by omega) ?_ | with_reducible refine ifF (by omega) ?_)
   refine again ⟨i+1,⟨?_,?_,by omega,by omega,h1.bump _⟩,by omega⟩
   · simp only [z5e];omega
   · simp only [z5e];omega
 · obtain rfl:i=s.size:=by omega
   repeat (first | refine To.go ?_ | with_reducible refine And.intro (by first | omega | exact ⟨rfl,rfl⟩) ?_ | ((with_reducible apply opt);(· (first | with_reducible assumption | rfl))) | ((with_reducible apply ldrw);(· (first | with_reducible assumption | (simp (disch:=omega) only [go_sem, *];try rfl)));(· (first | with_reducible assumption | rfl))) | ((with_reducible apply ldro);(· (first | with_reducible assumption | (simp (disch:=omega) only [go_sem, *];try rfl)));(· (first | with_reducible assumption | rfl))) | ((with_reducible apply st1);(· (first | with_reducible assumption | (simp (disch:=omega) only [go_sem, *];try rfl)));(· simp);(· rfl)) | with_reducible refine ifT rfl ?_ | with_reducible refine ifF (not_not_intro rfl) ?_ | with_reducible refine ifT (by omega) ?_ | with_reducible refine ifF (by omega) ?_)
   exact ⟨by simp [zdw],h1.bump _⟩
theorem zlC (s:ByteArray) (σ:Mem):z1 PG z8s [.int .i64 (zdw s:Nat)] σ λv σ'=>v=.str (sum4 s)/\σ.Same σ':=by
 refine zgH λlive=>?_
 unfold zcy
 have hl:=zpn s
 obtain ⟨n,hn⟩:∃ n,zdw s=n:=⟨_,rfl⟩
 unfold sum4 zrE
 rw [hn] at hl ⊢
 dsimp only [wrW]
 refine zri (m:=16777216) (by decide) (by omega) ?_
 refine zri (m:=65536) (by decide) (by omega) ?_
 refine zri (m:=256) (by decide) (by omega) ?_
 rw [wrap8,wrap8,wrap8,wrap8]
 refine To.go ?_
 refine zc0 (l:=[UInt8.ofNat (n / 16777216),UInt8.ofNat (n / 65536),UInt8.ofNat (n / 256),UInt8.ofNat n]) ?_ rfl ?_
 · rw [gS']
   unfold bl
   simp only [List.map_cons,List.map_nil,UInt8.toNat_ofNat',Nat.reducePow]
 · exact ⟨rfl,Mem.Same.put ((Mem.Same.refl σ).bump _) (by omega) _⟩
theorem zmo {s:ByteArray} (hs:s.size<=20000) {σ:Mem}:z1 PG z8n [.str s] σ λv σ'=>(∃ k,Done s k/\v=.str (zwrap s k))/\σ.Same σ':=by
 refine zhE λlive=>?_
 unfold zcR
 refine z0 (zhM (σ:=σ.bump 9) hs) ?_
 rintro _ σ1 ⟨⟨k,hk,rfl⟩,s1⟩
 have hb:=znD (k:=k) hs
 refine To.go ?_
 have z2:(⟨#[120,1]⟩:ByteArray).size=2:=rfl
 have z4:(sum4 s).size=4:=rfl
 refine And.intro (by omega) ?_
 refine z0 (zku s (by omega) σ1) ?_
 rintro _ σ2 ⟨rfl,s2⟩
 refine To.go ?_
 refine z0 (zlC s σ2) ?_
 rintro _ σ3 ⟨rfl,s3⟩
 refine To.go ?_
 have h3:=size_append ⟨#[120,1]⟩ (best3 s k)
 refine And.intro (by omega) ?_
 exact ⟨⟨k,hk,rfl⟩,(s1.ob.trans s2).trans s3⟩
theorem zeq (σ:Mem) (l:List AV) (_:σ.Ro) (hw:Wts PG σ Tryz.f3.params.toList l):z1 PG z6Q l σ λv _=>zmS v:=by
 rw [show Tryz.f3.params.toList=[9] from by rw [Tryz.params3]] at hw
 obtain ⟨s,r,rfl,hs,hw⟩:=hw.str (by kernel_rfl)
 obtain rfl:=hw.nil_inv
 refine zaS λlive=>?_
 unfold z6X
 have awk:∀ (σ':Mem),z6 PG z3D [] σ' λv σ4=>z7G v λv5=>(λv _=>zmS v) (AV.bool v5) σ4:=by
  intro σ'
  refine z0 (zjx _) ?_
  rintro _ σ2 ⟨rfl,_⟩
  exact rfl
 refine ifD (λh=>awk _) (λh=>?_)
 refine z0 (ziu (s:=s) (by omega)) ?_
 rintro _ σ1 ⟨⟨k,hk,rfl⟩,s1⟩
 refine To.go ?_
 refine z0 (zmo (s:=s) (by omega)) ?_
 rintro _ σ2 ⟨⟨k',hk',rfl⟩,s2⟩
 obtain rfl:=z7u hk hk'
 refine To.go ?_
 refine ifT rfl ?_
 exact awk _
end Go.Vit
