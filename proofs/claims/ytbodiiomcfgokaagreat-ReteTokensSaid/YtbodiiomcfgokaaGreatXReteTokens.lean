/- What is proved: the statement ReteTokens, as it is given, for every input that it speaks of. Conditions: none. -/
import Derived.Test.YtbodiiomcfgokaaGreatB14
import Derived.Test.YtbodiiomcfgokaaGreatChecked
import Derived.KernelRfl
import Derived.ChangeArms
import Derived.WideShapes
import Derived.DataReads
import Derived.WalkKit
import Derived.ProofKit
import Derived.OpenShut
import Derived.ShutString
import Derived.ChangeOld
import Derived.Below
set_option linter.all false
namespace Go.Proofs.YtbodiiomcfgokaaGreat
open Go.Proofs.Tryz Go.aK
variable {u0:Mem} {K:Kq}
set_option maxRecDepth 100000
theorem pE.c{k m:Fl}{j l:Lq}{g:ByteArray}{n:Int}(h: bZ (α:=Bool) (λr=> aa prog 36 [.list 3 k j,.list 12 m l] u0 λb7 y=> ∃G,b7=(pB G)/\ ab (!G) (r true y) (r (decide ((((ByteArray.size g:Nat):Int):Int)>100)) y)) (λb0 x=> ab b0 (aa prog 19 [] x λb8 b4=> ∃H,b8=(pB H)/\ K (pB H) b4) (aa prog 22 [.list 3 k j,.list 12 m l] x λc3 D=> ∃f d,c3=(.aD [pA f,pA d])/\ ab (Option.isNone f) (K (pB false) D) (ak (α:=Int) (λa6 a q=> nP d λa3 a7=> ∃d1 I,aB q a3 (a7+2) 1=some [.list 3 d1 I]/\ ab (decide (a<((List.length I:Nat):Int))) (ak (α:=Int) (λo b e=> nP d λa4 a8=> ∃d2 J,aB e a4 (a8+2) 1=some [.list 3 d2 J]/\ 0<=a/\∃(u:List PV),(J)[Int.toNat a]?=some u/\ ∃d3 L,ay u 1 1=some [.list 7 d3 L]/\ ab (decide (b<=(IntKind.wrap .i64 (((List.length L:Nat):Int)+1)))) (nP d λa5 a9=> ∃d4 M,aB e a5 (a9+2) 1=some [.list 3 d4 M]/\ 0<=a/\∃(v:List PV),(M)[Int.toNat a]?=some v/\ ∃i,ay v 0 1=some [pS i]/\ nP d λs t=> (∃d6 Q,aB e s (t+2) 1=some [.list 3 d6 Q]/\ 0<=a/\∃(p:List PV),(Q)[Int.toNat a]?=some p/\ (∃S,ay p 0 1=some [pS S]/\ (aa prog 47 [pA f,pS i,pI b] e λc4 b5=> ∃N,c4=(pI N)/\ (aa prog 48 [pA d,pS S,pI b] b5 λc5 E=> ∃V,c5=(pI V)/\ ab (N != V) (K (pB false) E) (o (IntKind.wrap .i64 (b+1)) E))/\ True)/\ True)/\ (aa prog 47 [pA f,pS i,pI b] e λc6 b6=> ∃O,c6=(pI O)/\ ∃T,ay p 0 1=some [pS T]/\ (aa prog 48 [pA d,pS T,pI b] b6 λc7 F=> ∃W,c7=(pI W)/\ ab (O != W) (K (pB false) F) (o (IntKind.wrap .i64 (b+1)) F))/\ True)/\ True)/\ (aa prog 47 [pA f,pS i,pI b] e λc8 z=> ∃P,c8=(pI P)/\ ∃d5 R,aB z s (t+2) 1=some [.list 3 d5 R]/\ 0<=a/\∃(w:List PV),(R)[Int.toNat a]?=some w/\ ∃U,ay w 0 1=some [pS U]/\ (aa prog 48 [pA d,pS U,pI b] z λc9 A=> ∃X,c9=(pI X)/\ ab (P != X) (K (pB false) A) (o (IntKind.wrap .i64 (b+1)) A))/\ True)/\ True) (a6 (IntKind.wrap .i64 (a+1)) e)) (-1) q) (aa prog 47 [pA f,pS g,pI n] q λd0 b1=> ∃Y,d0=(pI Y)/\ aa prog 48 [pA d,pS g,pI n] b1 λb9 B=> ∃Z,b9=(pI Z)/\ ab (Y == Z) (aa prog 49 [pA f] B λc0 b2=> ∃a0,c0=(pI a0)/\ aa prog 50 [pA d] b2 λc1 C=> ∃a1,c1=(pI a1)/\ ab (a0 == a1) (aa prog 19 [] C λc2 b3=> ∃a2,c2=(pB a2)/\ K (pB a2) b3) (K (pB false) C)) (K (pB false) B))) (0) D)))):aa prog 8 [.list 3 k j,.list 12 m l,pS g,pI n] u0 K:= VC [1000012] [(7,⟨[(11,.one (.raw (.int .i64)))],[]⟩),(10,⟨[(12,.one (.raw (.int .i64)))],[]⟩)] [(2,⟨[(21,.one (.raw .bool))],[]⟩)] [] [] [] [] func8 h
theorem cD.c{b:Fl}{a:Lq}{d:Int}(h: aa prog 69 [.list 12 b a,pI d] u0 λg f=> ∃e,g=(pB e)/\ K (pB e) f):aa prog 16 [.list 12 b a,pI d] u0 K:= VC [] [] [] [] [] [] [] func16 h
theorem cG.c{m:Fl}{a:Lq}{d:Int}(h: ab (decide (((List.length a:Nat):Int)>d)) (K (pB true) u0) (ak (α:=Int) (λn b f=> ab (decide (b<((List.length a:Nat):Int))) (0<=b/\∃(e:List PV),(a)[Int.toNat b]?=some e/\ ∃i p j q k,ay e 0 3=some [pS i,.list 7 p j,.list 19 q k]/\ aa prog 15 [.agg [pS i,.list 7 .sh j,.list 19 .sh k]] f λo g=> ∃l,o=(pB l)/\ ab l (K (pB true) g) (n (IntKind.wrap .i64 (b+1)) g)) (K (pB false) f)) (0) u0)):aa prog 30 [.list 3 m a,pI d] u0 K:= VC [] [(4,⟨[(5,.one (.raw (.int .i64)))],[]⟩)] [] [] [] [] [] func30 h
theorem eW.c{b e:Fl}{a d:Lq}(h: aa prog 30 [.list 3 b a,pI 6] u0 λk f=> ∃i,k=(pB i)/\ ab (!i) (aa prog 16 [.list 12 e d,pI 30] f λl j=> ∃g,l=(pB g)/\ K (pB g) j) (K (pB false) f)):aa prog 36 [.list 3 b a,.list 12 e d] u0 K:= VC [] [] [] [] [] [] [] func36 h
theorem yN.c{e:Option Addr}{f:ByteArray}{a:Int}(h: nP e λm o=> ∃i,aB u0 m (o+6) 1=some [pA i]/\ aa prog 75 [pA i,pS f] u0 λq b=> ∃r t s v u w d j,q=(.aD [.agg [pS r,.list 7 t s,.list 19 v u,.list 1 w d],pB j])/\ ab (!j) (K (pI 0) b) (ab (decide (a<0)) (K (pI 0) b) (ab (decide (a>((List.length d:Nat):Int))) (K (pI 0) b) (ab (a == 0) (K (pI 1) b) (0<=(IntKind.wrap .i64 (a-1))/\∃(g:List PV),(d)[Int.toNat (IntKind.wrap .i64 (a-1))]?=some g/\ ∃k,ay g 0 1=some [pA k]/\ nP k λn p=> ∃x l,aB b n (p+9) 1=some [.list 2 x l]/\ K (pI ((List.length l:Nat):Int)) b))))):aa prog 47 [pA e,pS f,pI a] u0 K:= VC [7] [] [] [] [] [] [] func47 h
theorem qu.c{d:Option Addr}{k:ByteArray}{b:Int}(h: aa prog 86 [pA d,pS k] u0 λH a=> ∃e n,H=(.aD [pI e,pB n])/\ ab (!n) (K (pI 0) a) (ab (decide (b<0)) (K (pI 0) a) (nP d λt z=> ∃L o,aB a t (z+2) 1=some [.list 3 L o]/\ 0<=e/\∃(l:List PV),(o)[Int.toNat e]?=some l/\ ∃M p,ay l 1 1=some [.list 7 M p]/\ ab (decide (b>((List.length p:Nat):Int))) (K (pI 0) a) (nP d λw A=> ∃N q,aB a w (A+2) 1=some [.list 3 N q]/\ 0<=e/\∃(m:List PV),(q)[Int.toNat e]?=some m/\ ∃O P f R Q,ay m 0 3=some [pS O,.list 7 P f,.list 19 R Q]/\ (0:Int)<=(0:Int)/\0<=b/\b<=((List.length f:Nat):Int)/\ nP d λx B=> ∃i g,aB a x (B+3) 1=some [.list 12 i g]/\ nP d λy C=> ∃j,aB a y C 1=some [pI j]/\ (bJ a 198 [pV none 0 0,pI j,pB false] λu D=> aa prog 113 [.list 7 .sh (List.drop (Int.toNat (0:Int)) (List.take (Int.toNat b) f)),pI 0,.list 3 .nr [[.list 1 .sh [],.list 4 .sh [],pI 0]],.list 12 i g,pP u 0] D λI E=> ∃T r,I=(.list 3 T r)/\ K (pI ((List.length r:Nat):Int)) E)/\ (bJ a 198 [pV none 0 0,pI j,pB false] λv F=> aa prog 113 [.list 7 .sh (List.drop (Int.toNat (0:Int)) (List.take (Int.toNat b) f)),pI 0,.list 3 .nr [[.list 1 .sh [],.list 4 .sh [],pI 0]],.list 12 i g,pP v 0] F λJ G=> ∃S s,J=(.list 3 S s)/\ K (pI ((List.length s:Nat):Int)) G))))):aa prog 48 [pA d,pS k,pI b] u0 K:= VC [9] [] [] [] [] [] [2057000] func48 h
theorem eP.c{l:Option Addr}(h: bJ u0 3 [pI 0] λa E=> stM a 0 [pI 0] E λo=> nP l λx B=> ∃q,aB o x (B+6) 1=some [pA q]/\ aa prog 89 [pA q] o λI F=> ∃r s t,I=(.fn r s t)/\ bk prog (.fn r s t) (λJ w G=> ∃L M O N Q P R g,J=[pS L,.agg [pS M,.list 7 O N,.list 19 Q P,.list 1 R g]]/\ ak (α:=Int) (λz b e=> ab (decide (b<((List.length g:Nat):Int))) (0<=b/\∃(m:List PV),(g)[Int.toNat b]?=some m/\ ∃u,ay m 0 1=some [pA u]/\ nP u λy C=> ∃S i,aB e y (C+10) 1=some [.list 1 S i]/\ ak (α:=Int) (λA d f=> ab (decide (d<((List.length i:Nat):Int))) (0<=d/\∃(n:List PV),(i)[Int.toNat d]?=some n/\ ∃j,ay n 0 1=some [pI j]/\ ∃k,aB f a 0 1=some [pI k]/\ stM a 0 [pI (if j>k then j else k)] f λH=> A (IntKind.wrap .i64 (d+1)) H) (z (IntKind.wrap .i64 (b+1)) f)) (0) e) (w none e)) (0) G) (λD p=> PK D (∃v,aB p a 0 1=some [pI v]/\ K (pI v) p) (False) []) F):aa prog 49 [pA l] u0 K:= VC [5] [(5,⟨[(20,.one (.raw (.int .i64)))],[]⟩),(8,⟨[(29,.one (.raw (.int .i64)))],[]⟩)] [] [(15,[139,129])] [] [] [] func49 h
theorem rq.c{d:Option Addr}(h: ak (α:=Int×Int) (λl a b=> nP d λj m=> ∃p i,aB b j (m+5) 1=some [.list 1 p i]/\ ab (decide (a.2<((List.length i:Nat):Int))) (nP d λk n=> ∃o g,aB b k (n+5) 1=some [.list 1 o g]/\ 0<=a.2/\∃(f:List PV),(g)[Int.toNat a.2]?=some f/\ ∃e,ay f 0 1=some [pI e]/\ l ((if e>a.1 then e else a.1),(IntKind.wrap .i64 (a.2+1))) b) (K (pI a.1) b)) (0,0) u0):aa prog 50 [pA d] u0 K:= VC [] [(3,⟨[(3,.one (.raw (.int .i64))),(4,.one (.raw (.int .i64)))],[]⟩)] [] [] [] [] [] func50 h
theorem cB.c{m:Fl}{b:Lq}{e:Int}(h: ab (decide (((List.length b:Nat):Int)>e)) (K (pB false) u0) (ak (α:=Int) (λn a d=> ab (decide (a<((List.length b:Nat):Int))) (0<=a/\∃(f:List PV),(b)[Int.toNat a]?=some f/\ ∃j,ay f 1 1=some [pS j]/\ ab (decide ((((ByteArray.size j:Nat):Int):Int)>100)) (K (pB false) d) (0<=a/\∃(g:List PV),(b)[Int.toNat a]?=some g/\ ∃k,ay g 4 1=some [pS k]/\ ab (decide ((((ByteArray.size k:Nat):Int):Int)>100)) (K (pB false) d) (0<=a/\∃(i:List PV),(b)[Int.toNat a]?=some i/\ ∃l,ay i 7 1=some [pS l]/\ ab (decide ((((ByteArray.size l:Nat):Int):Int)>100)) (K (pB false) d) (n (IntKind.wrap .i64 (a+1)) d)))) (K (pB true) d)) (0) u0)):aa prog 69 [.list 12 m b,pI e] u0 K:= VC [] [(4,⟨[(5,.one (.raw (.int .i64)))],[]⟩)] [] [] [] [] [] func69 h
end Go.Proofs.YtbodiiomcfgokaaGreat
namespace Go.aK
open Go.RowKit
section
variable {P:Program} {w:World} {n:Nat} {t:TypeId} {cs:List Value}
section
variable {H:Type} {enc:TypeId×Value->H} {r:Reach} {base:Nat} {v:Value} {d:DataW H} {p:List MemPlace}
theorem mM{k:IntKind}(ht:P.underlying t=some (.int k))(hv:Value.okWide P w r base t v)(h:DataW.Trod enc P w 0 (λ_=>true) true t v d p):∃i,cy (gA w) (.raw (.int k i)) v/\(Lit.int k i).wf=true:=by
 obtain⟨i,rfl⟩:=WideShapes.okWide_int ht hv
 obtain⟨n,hn⟩:=Reads.of h
 obtain⟨j,e,hw⟩:=hn.int ht
 simp[Value.cells]at e
 subst e
 exact⟨_,.raw _ rfl rfl,hw⟩
theorem Xh(ht:P.underlying t=some .string)(hv:Value.okWide P w r base t v)(h:DataW.Trod enc P w 0 (λ_=>true) true t v d p):∃s:ByteArray,cy (gA w) (pS s) v/\s.size<=maxLen:=by
 obtain⟨i,rfl⟩:=WideShapes.okWide_string ht hv
 obtain⟨n,hn⟩:=Reads.of h
 obtain⟨j,e,hw⟩:=hn.string ht
 simp[Value.cells]at e
 subst e
 exact⟨_,.raw _ rfl rfl,hw⟩
end
end
end Go.aK
namespace Go.Proofs.YtbodiiomcfgokaaGreat
open Go.Proofs.Tryz Go.aK Go.RowKit
theorem rh(f:Fl)(l:List af)(n:Nat)(OK:n<=1000000):ao prog 69 [.list 12 f (l.map af.pv),pI (n:Nat)] λp=>∃q:Bool,p=pB q/\(q=true->l.length<=n):=by
 refine ao.of (cB.c (ab.mk (λh=>⟨false,rfl,λh=>by cases h⟩) (λh=>?_)))
 have hn:l.length<=n:=by simpa using h
 refine ak.each (n:=l.length) (by omega) (λ_ _=>True) trivial (λk u next hk _ ar=>?_) (λu next _=>ab.f (by simp) ⟨true,rfl,λ_=>hn⟩)
 refine ab.t (by simpa using hk) ⟨by omega,_,aw hk,_,rfl,ab.mk (λ_=>⟨false,rfl,λh=>by cases h⟩) (λ_=>⟨by omega,_,aw hk,_,rfl,ab.mk (λ_=>⟨false,rfl,λh=>by cases h⟩) (λ_=>⟨by omega,_,aw hk,_,rfl,ab.mk (λ_=>⟨false,rfl,λh=>by cases h⟩) (λ_=>ar _ trivial)⟩)⟩)⟩
theorem lE(f:Fl)(l:List af)(n:Nat)(OK:n<=1000000):ao prog 16 [.list 12 f (l.map af.pv),pI (n:Nat)] λp=>∃q:Bool,p=pB q/\(q=true->l.length<=n):=by
 refine ao.of (cD.c ?_)
 exact(rh f l n OK).call λp ⟨q,e,h⟩=>⟨q,e,q,rfl,h⟩
def cS(es:List af)(ps:List Prod):Nat:=bz (ps.flatMap λq=>jl es q.conds)
section
variable {n:Nat} {x:NC} {es:List af} {ps:List Prod} {w:Nat}
theorem Vh(s:ByteArray)(k:Int)(hw:w<=1000){L:List aY}{μ:Mem}(hO:Ow (bR n x es ps w::L) μ){K:Kq}
  (h0:(∀q,aL aI cM s ps=some q->¬(0<=k/\k<=(q.conds.length:Nat)))->∀μ',Ow (bR n x es ps w::L) μ'->K (pI 0) μ')
  (h1:∀q,aL aI cM s ps=some q->∀j:Nat,k=(j:Int)->j<=q.conds.length->∀μ',Ow (bR n x es ps w::L) μ'->K (pI (((au es (q.conds.take j)).length:Nat):Int)) μ'):
  aa prog 47 [pP n 0,pS s,pI k] μ K:=by
 obtain⟨T,ms,ids,tk,ct,fr,mn,⟨hR,dQ⟩,h2⟩:=bR.open_ hO
 have ow:ps.length<=1000:=Nat.le_trans hR.xt hw
 refine yN.c ⟨_,aE (an.qz (x:=x) (es:=es) (ms:=ms) (ids:=ids) h2 (by simp)) (by simp),?_⟩
 refine RP.gO (Ow.at 2 rfl h2) hR.u (by rw[List.length_map];omega) s (λy u hy h3=>?_) (λu hy h3=>?_)
 ·rw[iL]at hy
  obtain⟨q,hq,rfl⟩:=Option.map_eq_some_iff.1 hy
  obtain⟨Dv,Qz⟩:=(aM aP hR.si).1 hq
  have hD:=hR.pD q Dv
  obtain⟨_,_,_,_,_,g1,g2⟩:=(hR.rE q Dv).facts
  have h4:Ow (bR n x es ps w::L) u:=bR.shut hR dQ (Ow.ord [1,1,0] h3)
  have RG:((dE T.B q.conds).map λb=>[pP b 0]).length=q.conds.length:=by rw[List.length_map,dC]
  refine⟨_,_,_,_,_,_,_,_,rfl,ab.f rfl (ab.mk (λa=>h0 (λq' LH h=>?_) u h4) (λa=>ab.mk (λb=>h0 (λq' LH h=>?_) u h4) (λb=>ab.mk (λc=>?_) (λc=>?_))))⟩
  ·have:k<0:=by simpa using a
   omega
  ·rw[hq]at LH;cases LH
   have b1:k>((((dE T.B q.conds).map λb=>[pP b 0]).length:Nat):Int):=of_decide_eq_true b
   rw[RG]at b1
   omega
  ·have EE:k=0:=by simpa using c
   exact h1 q hq 0 (by omega) (by omega) u h4
  ·have a':¬k<0:=by simpa using a
   have b':¬k>(q.conds.length:Nat):=by
    have b1:¬k>((((dE T.B q.conds).map λb=>[pP b 0]).length:Nat):Int):=of_decide_eq_false b
    rw[RG]at b1
    exact b1
   have c':k≠0:=by simpa using c
   obtain⟨j,rfl⟩:∃j:Nat,k=((j+1:Nat):Int):=⟨(k-1).toNat,by omega⟩
   have RH:IntKind.wrap .i64 (((j+1:Nat):Int)-1)=(j:Int):=by rw[az (by omega) (by omega)];omega
   rw[RH]
   refine⟨by omega,_,sg T.B q.conds (by omega),_,rfl,?_⟩
   dsimp only[nP,nn,aF]
   have hDj:q.conds.take (j+1)∈T.D:=hR.core.tree.xR hD (List.take_prefix _ _)
   obtain⟨F,hF⟩:=cb.rd hDj (Ow.ord [2] h3)
   refine⟨_,_,aE hF (by simp),?_⟩
   have:=h1 q hq (j+1) rfl (by omega) u h4
   dsimp only[gK]
   rw[hR.core.dH.tok _ hDj,List.length_map]
   exact this
 ·rw[iL]at hy
  refine⟨_,_,_,_,_,_,_,_,rfl,ab.t rfl (h0 (λq hq=>?_) u (bR.shut hR dQ (Ow.ord [1,1,0] h3)))⟩
  rw[hq]at hy;cases hy
theorem rf(hw:w<=1000){L:List aY}{μ:Mem}(hO:Ow (bR n x es ps w::L) μ){K:Kq}(hk:∀μ',Ow (bR n x es ps w::L) μ'->K (pI ((cS es ps:Nat):Int)) μ'):aa prog 49 [pP n 0] μ K:=by
 obtain⟨T,ms,ids,tk,ct,fr,mn,⟨hR,dQ⟩,h1⟩:=bR.open_ hO
 have ow:ps.length<=1000:=Nat.le_trans hR.xt hw
 refine eP.c λb3 DB=>?_
 refine(h1.new 3 [pI 0] DB).st 0 rfl (by simp) λu h=>?_
 refine⟨_,aE (an.qz (x:=x) (es:=es) (ms:=ms) (ids:=ids) h (by simp)) (by simp),(RP.o_ x.pr).call ⟨_,_,_,rfl,?_⟩⟩
 have nR:((ps.map (fZ T.B)).map λy=>[RP.db y.1,RP.gI y.2]).length=ps.length:=by simp
 refine bk.own (RP.fG x.pr (ps.map (fZ T.B)) (by simp;omega)) (Ow.at 3 rfl h)
  (λk u=>Ow (dc n x es ms ids T tk ct fr mn ps (Pt b3 3 [pI ((cS es (ps.take k):Nat):Int)]::L)) u) (λ_ _=>False) (λk=>fJ.own _) (λ_ _ _ _ h=>h.elim) (λμ' h'=>?_) ?_ ?_ (λ_ _ h=>h.elim)
 ·have h2:Ow (RP.cU x.pr (ps.map (fZ T.B))::Pt b3 3 [pI 0]::an n x es ms ids::cb T tk ct fr mn::RT.At x.el es::L) μ':=h'
  exact Ow.ord [2,2,0,1,0] h2
 ·rintro k fH u2 R h2 bU _
  have bW:k<ps.length:=by simpa using fH
  have hm:=List.getElem_mem bW
  have hD:=hR.pD _ hm
  obtain⟨_,_,_,_,_,g1,g2⟩:=(hR.rE _ hm).facts
  rw[List.getElem_map,List.getElem_map]
  refine⟨_,_,_,_,_,_,_,_,rfl,?_⟩
  have RG:((dE T.B ps[k].conds).map λb=>[pP b 0]).length=ps[k].conds.length:=by rw[List.length_map,dC]
  dsimp only[fZ]
  refine ak.each (n:=ps[k].conds.length) (by omega) (λi u=>Ow (dc n x es ms ids T tk ct fr mn ps (Pt b3 3 [pI ((max (cS es (ps.take k)) (bz ((List.range i).flatMap λi=>cQ es (ps[k].conds.take (i+1)))):Nat):Int)]::L)) u) ?_ ?_ ?_
  ·have:max (cS es (ps.take k)) (bz ((List.range 0).flatMap λi=>cQ es (ps[k].conds.take (i+1))))=cS es (ps.take k):=by simp[bz]
   rw[this];exact h2
  ·rintro i u3 next hi h3 ar
   have DE:ps[k].conds.take (i+1)∈T.D:=hR.core.tree.xR hD (List.take_prefix _ _)
   have ep:ps[k].conds.take (i+1)=ps[k].conds.take i++[ps[k].conds[i]]:=by rw[List.take_add_one,List.getElem?_eq_getElem hi];rfl
   obtain⟨F,hF⟩:=cb.rd DE (Ow.swap h3)
   refine ab.t (by simpa[dC]using hi) ⟨by omega,_,sg T.B _ hi,_,rfl,?_⟩
   dsimp only[nP,nn,aF]
   have XZ:ct (ps[k].conds.take (i+1))=cQ es (ps[k].conds.take (i+1)):=by
    rw[ep]at DE |-
    rw[hR.core.dH.EH _ _ DE,dY]
   have fB:aB u3 (T.B (ps[k].conds.take (i+1))) (0+10) 1=some [.list 1 F.k ((cQ es (ps[k].conds.take (i+1))).map jv)]:=by
    have:=aE (o:=0+10) (n:=1) hF (by simp)
    dsimp only[gK]at this
    rw[XZ]at this
    exact this
   refine⟨_,_,fB,?_⟩
   have iV:(cQ es (ps[k].conds.take (i+1))).length<=1000:=by
    rw[ep,dY]
    unfold je
    rw[List.length_map,List.length_range]
    rw[ep]at DE
    have:=(hR.core.tree.LB DE).2
    omega
   generalize mR:cQ es (ps[k].conds.take (i+1))=cs at*
   generalize hmx:max (cS es (ps.take k)) (bz ((List.range i).flatMap λi=>cQ es (ps[k].conds.take (i+1))))=mx at*
   refine ak.each (n:=cs.length) (by omega) (λj u=>Ow (dc n x es ms ids T tk ct fr mn ps (Pt b3 3 [pI ((max mx (bz (cs.take j)):Nat):Int)]::L)) u) ?_ ?_ ?_
   ·have:max mx (bz (cs.take 0))=mx:=by simp[bz]
    rw[this];exact h3
   ·rintro j u4 iJ hj h4 gu
    have eT:(cs.map jv)[Int.toNat (j:Int)]?=some [pI ((cs[j]:Nat):Int)]:=by
     rw[Int.toNat_natCast,List.getElem?_map,List.getElem?_eq_getElem hj];rfl
    refine ab.t (by simpa using hj) ⟨by omega,_,eT,_,rfl,_,h4.rd 4 rfl (by simp),?_⟩
    refine h4.st 4 rfl (by simp) λu5 h5=>gu _ ?_
    have e:dN [pI ((max mx (bz (cs.take j)):Nat):Int)] 0 [pI (if((cs[j]:Nat):Int)>((max mx (bz (cs.take j)):Nat):Int)then((cs[j]:Nat):Int)else((max mx (bz (cs.take j)):Nat):Int))]=[pI ((max mx (bz (cs.take (j+1))):Nat):Int)]:=by
     have e1:bz (cs.take (j+1))=max (bz (cs.take j)) cs[j]:=by
      rw[List.take_add_one,List.getElem?_eq_getElem hj,cl]
      show max _ (bz [cs[j]])=_
      rw[jZ]
     rw[e1]
     show[pI _]=_
     congr 2
     split<;>omega
    rw[e]at h5
    exact h5
   ·rintro u4 iJ h4
    rw[List.take_length]at h4
    refine ab.f (by simp) (ar _ ?_)
    have e:max (cS es (ps.take k)) (bz ((List.range (i+1)).flatMap λi=>cQ es (ps[k].conds.take (i+1))))=max mx (bz cs):=by
     rw[List.range_succ,List.flatMap_append,cl,<- hmx]
     simp only[List.flatMap_cons,List.flatMap_nil,List.append_nil,mR]
     omega
    rw[e];exact h4
  ·rintro u3 next h3
   refine ab.f (by simp[dC]) (bU _ ?_)
   have e:cS es (ps.take (k+1))=max (cS es (ps.take k)) (bz ((List.range ps[k].conds.length).flatMap λi=>cQ es (ps[k].conds.take (i+1)))):=by
    unfold cS
    rw[zL bW,cl];rfl
   rw[e];exact h3
 ·intro u2 h2
  rw[nR,List.take_length]at h2
  dsimp only[PK]
  refine⟨_,h2.rd 4 rfl (by simp),hk u2 (bR.shut (fr:=fr) (mn:=mn) hR dQ ?_)⟩
  exact h2.tail λ_ h=>h.tail λ_ h=>h.tail λ_ h=>h.tail λ_ h=>h.drop
end
theorem Mz{es:List af}{B:Int}{l:List ae}(h:¬du B es l)(k:Nat):¬du B es (l.take k):=by
 rintro⟨i,hi,j,h2⟩
 have QD:i<l.length:=by rw[List.length_take]at hi;omega
 refine h ⟨i,QD,j,?_⟩
 rw[List.getElem_take,List.take_take,Nat.min_eq_left (by rw[List.length_take]at hi;omega)]at h2
 exact h2
theorem Qo(a:Nat)(l:List Nat):bz (a::l)=max a (bz l):=by
 have:=cl [a] l
 rw[jZ]at this;exact this
theorem Ih{es fs:List af}(h:es.Perm fs)(l:List ae):jl es l=jl fs l:=by
 rw[wo,wo]
 exact List.map_congr_left λj _=>Io h l (List.Perm.refl _) j
open K6
theorem MF{es fs:List af}(h:es.Perm fs)(ps:List Prod):cS es ps=cS fs ps:=by
 unfold cS
 congr 2
 funext p;exact Ih h p.conds
theorem Gh{α:Type}(f:α->List Nat):∀l:List α,bz (l.flatMap f)=bz (l.map λx=>bz (f x))
 |[]=>rfl
 |x::l=>by rw[List.flatMap_cons,List.map_cons,cl,Qo,Gh f l]
theorem yZ.eK{x:NC}{es:List af}{ps:List Prod}{y:tq}(h:yZ x es ps y):bz y.mo=cS es ps:=by
 rw[MF h.es,h.ok.mo,h.ps]
 unfold cS
 rw[Gh];rfl
theorem ra{ps:List Prod}(hu:ca aI cM ps){i:Nat}(hi:i<ps.length):aL aI cM ps[i].name ps=some ps[i]:=(aM aP hu).2 ⟨List.getElem_mem hi,rfl⟩
section
variable {r:Nat} {x:tq}
theorem aci(h:jf x){L:List aY}{μ:Mem}(hO:Ow (aW r x::L) μ){K:Kq}(hk:K (pI ((bz x.mo:Nat):Int)) μ):aa prog 50 [pP r 0] μ K:=by
 have ui:=h.Bg
 have nR:x.mo.length=x.ps.length:=by rw[h.mo,List.length_map]
 obtain⟨f,sd⟩:=aW.open_ hO
 refine rq.c ?_
 refine ak.dm (n:=x.mo.length) (by omega) (λi s u=>s=((bz (x.mo.take i):Nat):Int)/\u=μ) ⟨rfl,rfl⟩ ?_ ?_
 ·rintro i _ u next hi ⟨rfl,rfl⟩ ar
  refine⟨_,_,sd.rd 0 rfl (by simp),ab.t (by simpa using hi) ⟨_,_,sd.rd 0 rfl (by simp),by omega,_,aw hi,_,rfl,ar _ _ ⟨?_,rfl⟩⟩⟩
  rw[fx hi,cl,jZ]
  show(if((x.mo[i]:Nat):Int)>((bz (x.mo.take i):Nat):Int)then((x.mo[i]:Nat):Int)else((bz (x.mo.take i):Nat):Int))=_
  split<;>omega
 ·rintro _ u next ⟨rfl,rfl⟩
  rw[List.take_length]
  exact⟨_,_,sd.rd 0 rfl (by simp),ab.f (by simp) hk⟩
theorem Pj(h:jf x)(s:ByteArray)(k:Int){L:List aY}{μ:Mem}(hO:Ow (aW r x::L) μ){K:Kq}
  (h0:(∀q,aL aI cM s x.ps=some q->¬(0<=k/\k<=(q.conds.length:Nat)))->K (pI 0) μ)
  (h1:∀q,aL aI cM s x.ps=some q->∀j:Nat,k=(j:Int)->j<=q.conds.length->∀μ',Ow (aW r x::L) μ'->K (pI (((au x.es (q.conds.take j)).length:Nat):Int)) μ'):
  aa prog 48 [pP r 0,pS s,pI k] μ K:=by
 have ui:=h.Bg
 have hen:=h.en
 obtain⟨b1,b2⟩:=h.b
 refine qu.c ?_
 refine Nq s (by omega) hO (λbU=>⟨_,_,rfl,ab.t rfl (h0 λq hq=>absurd (hq.symm.trans (show aL aI cM s x.ps=none from(bx aP).2 bU)) (by simp))⟩) λi hi he=>⟨_,_,rfl,ab.f rfl ?_⟩
 subst he
 have hg:=ra h.si hi
 have hm:=List.getElem_mem hi
 have hp:=h.rE _ hm
 obtain⟨g1,_,_,g4,_⟩:=hp.facts
 obtain⟨f,sd⟩:=aW.open_ hO
 refine ab.mk (λcz=>h0 λq hq hc=>?_) (λvY=>⟨_,_,sd.rd 0 rfl (by simp),by omega,_,aw hi,_,_,rfl,ab.mk (λWn=>h0 λq hq hc=>?_) (λhle=>?_)⟩)
 ·have:k<0:=by simpa using cz
  omega
 ·rw[hg]at hq;cases hq
  have:k>((x.ps[i].conds.length:Nat):Int):=by simpa using Wn
  omega
 have vY:¬k<0:=by simpa using vY
 have hle:¬k>((x.ps[i].conds.length:Nat):Int):=by simpa using hle
 obtain⟨j,rfl⟩:∃j:Nat,k=(j:Int):=⟨k.toNat,by omega⟩
 have e1:List.drop (Int.toNat (0:Int)) (List.take (Int.toNat ((j:Nat):Int)) (x.ps[i].conds.map ae.pv))=(x.ps[i].conds.take j).map ae.pv:=by
  rw[show Int.toNat (0:Int)=0 from rfl,Int.toNat_natCast,List.drop_zero,<- List.map_take]
 have main:bJ μ 198 [pV none 0 0,pI x.B,pB false] λb57 tE=>
   aa prog 113 [.list 7 .sh (List.drop (Int.toNat (0:Int)) (List.take (Int.toNat ((j:Nat):Int)) (x.ps[i].conds.map ae.pv))),pI (0),.list 3 .nr [[.list 1 .sh [],.list 4 .sh [],pI (0)]],.list 12 f.2.1 (x.es.map af.pv),pP b57 0] tE λJe tD=>∃ahk x58,Je=(.list 3 ahk x58)/\K (pI ((List.length x58:Nat):Int)) tD:=λb hb=>by
  rw[e1]
  have aO:ud (x.ps[i].conds.take j):=jX.2 λc hc=>jX.1 g1 c (List.mem_of_mem_take hc)
  have QB:Dp (x.ps[i].conds.take j):=Dn.2 λc hc=>Dn.1 hp.knd c (List.mem_of_mem_take hc)
  have gD:=fX x.ps[i].conds j
  refine aab ⟨by omega,by omega⟩ (by omega) aO QB (by omega) .sh _ (sd.new _ _ hb) λf1 o N cv out u1 w1 w2 hN hl ht jd=>⟨_,_,rfl,?_⟩
  have ho:o=false:=by
   cases o with
   |false=>rfl
   |true=>exact absurd (w2 rfl) (Mz (h.le _ hm) j)
  obtain⟨_,e2,_⟩:=w1 ho
  have e3:(out.map dr.pv).length=(au x.es (x.ps[i].conds.take j)).length:=by
   rw[List.length_map,e2,<- gC,List.length_map]
  rw[e3]
  exact h1 _ hg j rfl (by omega) _ (aW.shut jd.drop)
 exact⟨_,_,sd.rd 0 rfl (by simp),by omega,_,aw hi,_,_,_,_,_,rfl,by omega,by omega,by simpa using hle,_,_,sd.rd 0 rfl (by simp),_,sd.rd 0 rfl (by simp),main,main⟩
end
theorem qS{p:Prod}(h:lb p):kO p:=⟨h.1,by have:=h.2.1;omega,by have:=h.2.2.1;omega⟩
theorem iz(f:Fl)(ps:List Prod)(n:Nat)(hn:n<=1000000):ao prog 30 [.list 3 f (ps.map Prod.pv),pI (n:Nat)] λv=>∃q:Bool,v=pB q/\(q=false->ps.length<=n/\∀p∈ps,kO p):=by
 refine ao.of (cG.c (ab.mk (λ_=>⟨true,rfl,λh=>by cases h⟩) (λh=>?_)))
 have hl:ps.length<=n:=by simpa using h
 refine ak.each (n:=ps.length) (by omega) (λk _=>∀p∈ps.take k,kO p) (by simp) (λk u next hk hI ar=>?_) (λu next hI=>ab.f (by simp) ⟨false,rfl,λ_=>⟨hl,by rwa [List.take_length]at hI⟩⟩)
 refine ab.t (by simpa using hk) ⟨by omega,_,aw hk,_,_,_,_,_,rfl,(wy .sh .sh ps[k]).call ?_⟩
 rintro _ ⟨q,rfl,hq⟩
 refine⟨_,rfl,ab.mk (λ_=>⟨true,rfl,λh=>by cases h⟩) (λhf=>ar _ λp hp=>?_)⟩
 rcases(dg hk).1 hp with hp|rfl
 ·exact hI p hp
 ·exact qS (hq hf)
theorem td(f1 f2:Fl)(ps:List Prod)(es:List af):ao prog 36 [.list 3 f1 (ps.map Prod.pv),.list 12 f2 (es.map af.pv)] λv=>∃q:Bool,v=pB q/\(q=true->oR ps 6/\es.length<=30):=by
 refine ao.of (eW.c ?_)
 refine(iz f1 ps 6 (by omega)).call ?_
 rintro _ ⟨q,rfl,hq⟩
 refine⟨_,rfl,ab.mk (λhf=>?_) (λ_=>⟨false,rfl,λh=>by cases h⟩)⟩
 refine(lE f2 es 30 (by omega)).call ?_
 rintro _ ⟨q2,rfl,Gr⟩
 exact⟨_,rfl,_,rfl,λht=>⟨hq (nb hf),Gr ht⟩⟩
section
variable {n r:Nat} {x:NC} {es:List af} {ps:List Prod} {y:tq}
theorem Cb(hb:yZ x es ps y){L:List aY}{u:Mem}(h:Ow (bR n x es ps 20::aW r y::L) u)(s:ByteArray)(k:Int){F:Kq}
  (hF:∀(v:Int) u',Ow (bR n x es ps 20::aW r y::L) u'->(∀{F2:Kq},(∀u2,Ow (bR n x es ps 20::aW r y::L) u2->F2 (pI v) u2)->aa prog 48 [pP r 0,pS s,pI k] u' F2)->F (pI v) u'):
  aa prog 47 [pP n 0,pS s,pI k] u F:=by
 refine Vh s k (by omega) h (λh0 u1 h1=>hF 0 u1 h1 λ{F2} DD=>?_) (λq hq j hj hle u1 h1=>hF _ u1 h1 λ{F2} DD=>?_)
 ·refine Pj hb.ok s k (Ow.swap h1) (λ_=>DD _ h1) (λq hq j hj hle=>?_)
  rw[hb.ps]at hq
  exact absurd ⟨by omega,by omega⟩ (h0 q hq)
 ·refine Pj hb.ok s k (Ow.swap h1) (λh0=>?_) (λq' LH j' Kl XP u2 h2=>?_)
  ·rw[hb.ps]at h0
   exact absurd ⟨by omega,by omega⟩ (h0 q hq)
  ·rw[hb.ps,hq]at LH
   cases LH
   obtain rfl:j'=j:=by omega
   rw[<- (kX hb.es _).length_eq]
   exact DD _ (Ow.swap h2)
theorem VD(hb:yZ x es ps y){L:List aY}{u:Mem}(h:Ow (bR n x es ps 20::aW r y::L) u){F:Kq}
  (hF:∀(v:Int) u',Ow (bR n x es ps 20::aW r y::L) u'->(∀{F2:Kq},(∀u2,Ow (bR n x es ps 20::aW r y::L) u2->F2 (pI v) u2)->aa prog 50 [pP r 0] u' F2)->F (pI v) u'):
  aa prog 49 [pP n 0] u F:=
 rf (by omega) h λu1 h1=>hF _ u1 h1 λ{F2} DD=>aci hb.ok (Ow.swap h1) (by rw[hb.eK];exact DD _ h1)
end
theorem KS(ps:List Prod)(_:(∀s∈ps,True)/\ps.length<=maxLen)(es:List af)(_:(∀s∈es,True)/\es.length<=maxLen)(s:ByteArray)(_:s.size<=maxLen)(k:Int):Pure prog 8 [.list 3 .sh (ps.map Prod.pv),.list 12 .sh (es.map af.pv),pS s,pI k] (pB true):=by
 refine ao.of (pE.c ?_)
 refine⟨λs u=>s=false->oR ps 6/\es.length<=30,?_,?_⟩
 ·refine(td .sh .sh ps es).call ?_
  rintro _ ⟨q,rfl,hq⟩
  exact⟨_,rfl,ab.mk (λh h'=>by cases h') (λh _=>hq (nt h))⟩
 rintro b u hs
 refine ab.mk (λ_=>dS u) (λhf=>?_)
 obtain⟨hp,he⟩:=hs hf
 refine tU .sh .sh (by omega) hp es (by omega) (L:=[]) trivial λn r x fw fW y u1 hT hM ht IY eZ hb h1=>⟨_,_,rfl,ab.f rfl ?_⟩
 have ui:=hb.ok.Bg
 refine ak.each (n:=y.ps.length) (by omega) (λi u=>Ow (bR n x fw fW 20::aW r y::[]) u) h1 ?_ ?_
 ·rintro i u2 next hi h2 ar
  obtain⟨_,_,_,_,_,_,g2⟩:=(hb.ok.rE _ (List.getElem_mem hi)).facts
  obtain⟨f,h3⟩:=aW.open_ (Ow.swap h2)
  refine⟨_,_,h3.rd 0 rfl (by simp),ab.t (by simpa using hi) ?_⟩
  refine ak.OX (y.ps[i].conds.length+3) (λj s u=>s=(j:Int)-1/\Ow (bR n x fw fW 20::aW r y::[]) u) ⟨rfl,h2⟩ ?_ ?_
  ·rintro j _ u3 uU hj ⟨rfl,h4⟩ lW
   obtain⟨f,h5⟩:=aW.open_ (Ow.swap h4)
   have ew:IntKind.wrap .i64 (((j:Int)-1)+1)=((j+1:Nat):Int)-1:=by rw[az (by omega) (by omega)];omega
   have ew2:IntKind.wrap .i64 (((y.ps[i].conds.map ae.pv).length:Nat)+(1:Int))=((y.ps[i].conds.length:Nat):Int)+1:=by rw[List.length_map,az (by omega) (by omega)]
   have ne:∀e:Int,((e != e):Bool)=false:=λe=>by simp
   have fin:∀u',Ow (bR n x fw fW 20::aW r y::[]) u'->uU (IntKind.wrap .i64 (((j:Int)-1)+1)) u':=λu' h=>lW _ _ ⟨ew,h⟩
   refine⟨_,_,h5.rd 0 rfl (by simp),by omega,_,aw hi,_,_,rfl,ab.t (by rw[ew2];exact decide_eq_true (by omega)) ⟨_,_,h5.rd 0 rfl (by simp),by omega,_,aw hi,_,rfl,?_⟩⟩
   refine⟨⟨_,_,h5.rd 0 rfl (by simp),by omega,_,aw hi,⟨_,rfl,Cb hb h4 _ _ λv u4 ZZ hc=>⟨_,rfl,hc λu5 h6=>⟨_,rfl,ab.f (ne _) (fin _ h6)⟩,trivial⟩,trivial⟩,Cb hb h4 _ _ λv u4 ZZ hc=>⟨_,rfl,_,rfl,hc λu5 h6=>⟨_,rfl,ab.f (ne _) (fin _ h6)⟩,trivial⟩,trivial⟩,Cb hb h4 _ _ λv u4 ZZ hc=>?_,trivial⟩
   obtain⟨f',h5'⟩:=aW.open_ (Ow.swap ZZ)
   exact⟨_,rfl,_,_,h5'.rd 0 rfl (by simp),by omega,_,aw hi,_,rfl,hc λu5 h6=>⟨_,rfl,ab.f (ne _) (fin _ h6)⟩,trivial⟩
  ·rintro _ u3 uU ⟨rfl,h4⟩
   obtain⟨f,h5⟩:=aW.open_ (Ow.swap h4)
   have ew2:IntKind.wrap .i64 (((y.ps[i].conds.map ae.pv).length:Nat)+(1:Int))=((y.ps[i].conds.length:Nat):Int)+1:=by rw[List.length_map,az (by omega) (by omega)]
   exact⟨_,_,h5.rd 0 rfl (by simp),by omega,_,aw hi,_,_,rfl,ab.f (by rw[ew2];exact decide_eq_false (by omega)) (ar _ h4)⟩
 ·rintro u2 next h2
  obtain⟨f,h3⟩:=aW.open_ (Ow.swap h2)
  have eq:∀e:Int,((e == e):Bool)=true:=λe=>by simp
  refine⟨_,_,h3.rd 0 rfl (by simp),ab.f (by simp) ?_⟩
  exact Cb hb h2 _ _ λv u4 ZZ hc=>⟨_,rfl,hc λu5 h6=>⟨_,rfl,ab.t (eq _) (VD hb h6 λv u6 Yh hm=>⟨_,rfl,hm λu7 h7=>⟨_,rfl,ab.t (eq _) (dS _)⟩⟩)⟩⟩
set_option maxRecDepth 100000
section
variable {w:World}
theorem jq:prog.cellsOf 78=12:=by kernel_rfl
theorem ph(n:Nat)(cs:List Value)(h:Reads prog w n 78 cs):∃s:af,bF (gA w) s.pv cs/\True:=by
 obtain⟨m,rfl,hl,hf⟩:=h.struct underlying78
 rw[jq]at hl
 obtain⟨a,e0,_⟩:=kN _ _ (dR hf 0 0 jS rfl rfl rfl)
 obtain⟨b,e1,_⟩:=kN _ _ (dR hf 1 3 jS rfl rfl rfl)
 obtain⟨c,e2,_⟩:=kN _ _ (dR hf 2 6 jS rfl rfl rfl)
 obtain⟨i3,e3⟩:=(dR hf 3 9 lV rfl rfl rfl).pbool underlying4
 obtain⟨i4,e4⟩:=(dR hf 4 10 lV rfl rfl rfl).pbool underlying4
 obtain⟨i5,e5,_⟩:=(dR hf 5 11 sk rfl rfl rfl).CQ underlying3
 match cs,hl with
 |[x0,x1,x2,x3,x4,x5,x6,x7,x8,x9,Y_,x11],_=>exact⟨⟨a,b,c,_,_,_⟩,((((e0.append e1).append e2).append e3).append e4).append e5,trivial⟩
end
open Go.ChangeShapes Go.WideShapes Go.ChangeAt
set_option maxRecDepth 100000 in
theorem ReteTokens.lifted(os:Os)(started:os.Started)(H:Type)(enc:TypeId×Value->H):
  ReturnsInHanded {} Tryz.checked os 8 .any (Rows.reteTokensSpec.pre6 enc prog f8 Rows.reteTokensRow.domain false) (Rows.reteTokensSpec.post enc prog f8 false true false false):=by
 refine returnsInHanded_of_change (C:=Tryz.checked) qK started (by kernel_rfl) func8
  (ChangeSpec.witness6 (enc:=enc) (C:=Tryz.checked) false ⟨#[],#[.slice none 0 0,.slice none 0 0,.string ByteArray.empty,.int .i64 0],[]⟩ 12 (by kernel_rfl) (by kernel_rfl) (by kernel_rfl) (by kernel_rfl)) ?_
 intro W base args ds gs before jH hW QG _
 have gU:∀(j:Nat) t v,f8.params[j]?=some t->args[j]?=some v->Value.okWide prog W .any base t v:=jH
 have QI:=hW
 obtain⟨p,q,Gv,hV,rfl,ZM,Bv⟩:=hW
 have hA:DataW.TrodAll enc prog W 0 (λ_=>true) true f8.params.toList args.toList ds p:=Gv
 rw[params8]at hA gU
 obtain⟨v0,vs0,d0,ds0,p0,q0,AW,rfl,rfl,h0,r0⟩:=trodAll_cons hA
 obtain⟨v1,WA,d1,ds1,p1,q1,rfl,rfl,rfl,h1,r1⟩:=trodAll_cons r0
 obtain⟨v2,vs2,d2,ds2,p2,q2,rfl,rfl,rfl,h2,r2⟩:=trodAll_cons r1
 obtain⟨v3,vs3,d3,ds3,p3,q3,rfl,rfl,rfl,h3,r3⟩:=trodAll_cons r2
 obtain⟨rfl,rfl,rfl⟩:=trodAll_nil r3
 obtain rfl:args= #[v0,v1,v2,v3]:=by cases args;simp_all
 obtain⟨rfl,rfl⟩:=trodVars_none hV
 have Qq:∀x∈p0,x.block<W.heap.size:=by obtain⟨m,hm⟩:=h0;exact DataW.trod_lt m _ _ _ hm
 obtain⟨a0,e0,w0⟩:=iY underlying43 Cm (by omega) vv (gU 0 43 v0 rfl rfl) h0
 have Qp:∀x∈p1,x.block<W.heap.size:=by obtain⟨m,hm⟩:=h1;exact DataW.trod_lt m _ _ _ hm
 obtain⟨a1,e1,w1⟩:=iY underlying29 jq (by omega) ph (gU 1 29 v1 rfl rfl) h1
 have Tm:∀x∈p2,x.block<W.heap.size:=by obtain⟨m,hm⟩:=h2;exact DataW.trod_lt m _ _ _ hm
 obtain⟨a2,e2,w2⟩:=Xh underlying9 (gU 2 9 v2 rfl rfl) h2
 have lt3:∀x∈p3,x.block<W.heap.size:=by obtain⟨m,hm⟩:=h3;exact DataW.trod_lt m _ _ _ hm
 obtain⟨a3,e3,w3⟩:=mM underlying3 (gU 3 3 v3 rfl rfl) h3
 clear Gv jH
 refine(ao.calls (vs:=[v0,v1,v2,v3]) (KS a0 w0 a1 w1 a2 w2 a3) (bf.cons rfl e0 (bf.cons rfl e1 (bf.cons rfl e2 (bf.cons rfl e3 (bf.nil _)))))).mono λe W' ⟨⟨v,x,Z,he,hr,hx⟩,tj⟩=>?_
 subst hx;subst he;rw[hr.ofRaw.1]
 exact⟨_,rfl,_,_,_,[],_,[],QI,trodAll_mk1 (shut_bool underlying4 _),(trodAll_cons_mk (Below.trod dj (by kernel_rfl) (of_decide_eq_true (by kernel_rfl)) h0 tj Qq) (trodAll_cons_mk (Below.trod dj (by kernel_rfl) (of_decide_eq_true (by kernel_rfl)) h1 tj Qp) (trodAll_cons_mk (Below.trod dj (by kernel_rfl) (of_decide_eq_true (by kernel_rfl)) h2 tj Tm) (trodAll_cons_mk (Below.trod dj (by kernel_rfl) (of_decide_eq_true (by kernel_rfl)) h3 tj lt3) trodAll_mk0)))),rfl,tj.frame _,λh=>by cases h⟩
theorem and2{a b:Bool}(h:a=true)(k:b=true):(a&&b)=true:=by rw[h,k];rfl
set_option maxHeartbeats 0 in
theorem ReteTokens.closed:joinedFacts Tryz.checked.prog 8 f8 Rows.reteTokensSpec Rows.reteTokensRow=true:=by
 unfold joinedFacts
 repeat' with_reducible apply and2
 all_goals (as_aux_lemma=>kernel_rfl)
theorem ReteTokens.proved:Rows.ReteTokensSaid:=
 OpenClaim.holds_of_wide 8 f8 rfl rfl rfl rfl rfl rfl rfl ⟨rfl,rfl,rfl,rfl,rfl⟩ rfl rfl rfl rfl rfl (by kernel_rfl) func8 ReteTokens.closed
  (of_decide_eq_true (by kernel_rfl)) (by unfold Func.isWrapper;first|(rw[if_pos (by decide +kernel)];kernel_rfl)|(rw[if_neg (by decide +kernel)];exact⟨rfl,rfl⟩))
  (λos started H enc _=>ReteTokens.lifted os started H enc)
end Go.Proofs.YtbodiiomcfgokaaGreat
