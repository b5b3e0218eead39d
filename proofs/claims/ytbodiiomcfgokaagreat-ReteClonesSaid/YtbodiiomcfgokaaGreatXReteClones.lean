/- What is proved: the statement ReteClones, as it is given, for every input that it speaks of. Conditions: none. -/
import Derived.Test.YtbodiiomcfgokaaGreatB14
import Derived.Test.YtbodiiomcfgokaaGreatChecked
import Derived.KernelRfl
import Derived.ChangeArms
import Derived.WideShapes
import Derived.DataReads
import Derived.WalkKit
import Derived.ProofKit
import Derived.OpenShut
import Derived.ShutString
import Derived.ChangeOld
import Derived.Below
set_option linter.all false
namespace Go.Proofs.YtbodiiomcfgokaaGreat
open Go.Proofs.Tryz Go.aK
variable {u0:Mem} {K:Kq}
set_option maxRecDepth 100000
theorem kR.c{n p F c0 c1:Fl}{m o j d e:Lq}{b:ByteArray}(h: bZ (α:=Bool) (λl=> aa prog 36 [.list 3 n m,.list 12 p o] u0 λe1 J=> ∃R,e1=(pB R)/\ ab (!R) (l true J) (aa prog 16 [.list 12 F j,pI 20] J λe2 M=> ∃S,e2=(pB S)/\ ab (!S) (l true M) (aa prog 15 [.agg [pS b,.list 7 .sh d,.list 19 .sh e]] M λf1 d7=> ∃T,f1=(pB T)/\ l T d7))) (λc6 I=> ab c6 (aa prog 19 [] I λf2 d8=> ∃U,f2=(pB U)/\ K (pB U) d8) (aa prog 22 [.list 3 n m,.list 12 p o] I λf3 O=> ∃f g,f3=(.aD [pA f,pA g])/\ ab (Option.isNone f) (K (pB false) O) (aa prog 37 [pA f] O λf4 P=> ∃i,f4=(pA i)/\ ab (Option.isNone i) (K (pB false) P) (aa prog 38 [pA g] P λf5 d9=> ∃f9 V,f5=(.list 2 f9 V)/\ ak (α:=(Fl×Lq)×Int) (λc4 a s=> ab (decide (a.2<((List.length j:Nat):Int))) (0<=a.2/\∃(G:List PV),(j)[Int.toNat a.2]?=some G/\ ∃t u v w x y z A B C D g0,ay G 0 12=some [pI t,pS u,pI v,pI w,pS x,pI y,pI z,pS A,pI B,pB C,pB D,pI g0]/\ aV false 12 112 a.1.1 a.1.2 [[pI t,pS u,pI v,pI w,pS x,pI y,pI z,pS A,pI B,pB C,pB D,pI (IntKind.wrap .i64 (1000+a.2))]] s λc3 e0=> c4 ((c3,(a.1.2++[[pI t,pS u,pI v,pI w,pS x,pI y,pI z,pS A,pI B,pB C,pB D,pI (IntKind.wrap .i64 (1000+a.2))]])),(IntKind.wrap .i64 (a.2+1))) e0) (nP g λc2 c5=> ∃W X Z Y a1 a0 a3 a2 a5 a4,aB s c2 c5 6=some [pI W,pI X,.list 3 Z Y,.list 12 a1 a0,.list 1 a3 a2,.list 1 a5 a4]/\ bJ s 47 [pI 0,pI 0,.list 3 .nil [],.list 12 .nil [],.list 1 .nil [],.list 1 .nil []] λk c7=> stM k 0 [pI W,pI X,.list 3 Z Y,.list 12 a1 a0,.list 1 a3 a2,.list 1 a5 a4] c7 λc8=> aa prog 39 [pA f,.list 12 a.1.1 a.1.2,.list 1 .nil []] c8 λf6 c9=> ∃a6,f6=(pI a6)/\ aa prog 40 [pA g,.list 12 a.1.1 a.1.2,.list 1 .nil []] c9 λf7 L=> ∃a7,f7=(pI a7)/\ bZ (α:=Int×Int) (λE=> ((aa prog 41 [pA i,.agg [pS b,.list 7 .sh d,.list 19 .sh e]] L λf8 d0=> ∃a8,f8=(pI a8)/\ (aa prog 20 [.agg [pS b,.list 7 .sh d,.list 19 .sh e]] d0 λe3 d1=> ∃b0 g2 b2 g4 b4,e3=(.agg [pS b0,.list 7 g2 b2,.list 19 g4 b4])/\ (aa prog 42 [pP k 0,.agg [pS b0,.list 7 .sh b2,.list 19 .sh b4]] d1 λe4 d2=> ∃b6,e4=(pI b6)/\ E (a8,b6) d2)/\ True)/\ True)/\ True)/\ (aa prog 41 [pA i,.agg [pS b,.list 7 .sh d,.list 19 .sh e]] L λe5 d3=> ∃a9,e5=(pI a9)/\ (aa prog 20 [.agg [pS b,.list 7 .sh d,.list 19 .sh e]] d3 λe6 d4=> ∃b1 g1 b3 g3 b5,e6=(.agg [pS b1,.list 7 g1 b3,.list 19 g3 b5])/\ (aa prog 42 [pP k 0,.agg [pS b1,.list 7 .sh b3,.list 19 .sh b5]] d4 λe7 d5=> ∃b7,e7=(pI b7)/\ E (a9,b7) d5)/\ True)/\ True)/\ True) (λH q=> ab (a6 == a7) (ab (H.1 == H.2) (aa prog 43 [pA f,pA g] q λe8 N=> ∃b8,e8=(pB b8)/\ ab b8 (aa prog 43 [pA i,pP k 0] N λe9 r=> ∃b9,e9=(pB b9)/\ ab b9 (ab (decide (((List.length V:Nat):Int)<=400)) (aa prog 19 [] r λf0 d6=> ∃Q,f0=(pB Q)/\ K (pB Q) d6) (K (pB false) r)) (K (pB false) r)) (K (pB false) N)) (K (pB false) q)) (K (pB false) q)))) ((.nil,[]),0) d9))))):aa prog 6 [.list 3 n m,.list 12 p o,.list 12 F j,.agg [pS b,.list 7 c0 d,.list 19 c1 e]] u0 K:= VC [7,15,1000019] [(12,⟨[(13,.one (.list 12)),(14,.one (.raw (.int .i64)))],[]⟩)] [(2,⟨[(33,.one (.raw .bool))],[]⟩),(20,⟨[(19,.one (.raw (.int .i64))),(20,.one (.raw (.int .i64)))],[]⟩)] [] [] [] [] func6 h
theorem cD.c{b:Fl}{a:Lq}{d:Int}(h: aa prog 69 [.list 12 b a,pI d] u0 λg f=> ∃e,g=(pB e)/\ K (pB e) f):aa prog 16 [.list 12 b a,pI d] u0 K:= VC [] [] [] [] [] [] [] func16 h
theorem eJ.c{s t:Fl}{b d:Lq}(h: ab (((List.length b:Nat):Int) != ((List.length d:Nat):Int)) (K (pB false) u0) (ak (α:=Int) (λu a e=> ab (decide (a<((List.length b:Nat):Int))) (0<=a/\∃(f:List PV),(b)[Int.toNat a]?=some f/\ ∃l,ay f 0 1=some [pS l]/\ 0<=a/\∃(g:List PV),(d)[Int.toNat a]?=some g/\ ∃m,ay g 0 1=some [pS m]/\ ab (!aJ l m) (K (pB false) e) (0<=a/\∃(i:List PV),(b)[Int.toNat a]?=some i/\ ∃o n,ay i 1 1=some [.list 1 o n]/\ 0<=a/\∃(j:List PV),(d)[Int.toNat a]?=some j/\ ∃q p,ay j 1 1=some [.list 1 q p]/\ aa prog 77 [.list 1 o n,.list 1 q p] e λv k=> ∃r,v=(pB r)/\ ab (!r) (K (pB false) k) (u (IntKind.wrap .i64 (a+1)) k))) (K (pB true) e)) (0) u0)):aa prog 29 [.list 2 s b,.list 2 t d] u0 K:= VC [] [(4,⟨[(5,.one (.raw (.int .i64)))],[]⟩)] [] [] [] [] [] func29 h
theorem cG.c{m:Fl}{a:Lq}{d:Int}(h: ab (decide (((List.length a:Nat):Int)>d)) (K (pB true) u0) (ak (α:=Int) (λn b f=> ab (decide (b<((List.length a:Nat):Int))) (0<=b/\∃(e:List PV),(a)[Int.toNat b]?=some e/\ ∃i p j q k,ay e 0 3=some [pS i,.list 7 p j,.list 19 q k]/\ aa prog 15 [.agg [pS i,.list 7 .sh j,.list 19 .sh k]] f λo g=> ∃l,o=(pB l)/\ ab l (K (pB true) g) (n (IntKind.wrap .i64 (b+1)) g)) (K (pB false) f)) (0) u0)):aa prog 30 [.list 3 m a,pI d] u0 K:= VC [] [(4,⟨[(5,.one (.raw (.int .i64)))],[]⟩)] [] [] [] [] [] func30 h
theorem eW.c{b e:Fl}{a d:Lq}(h: aa prog 30 [.list 3 b a,pI 6] u0 λk f=> ∃i,k=(pB i)/\ ab (!i) (aa prog 16 [.list 12 e d,pI 30] f λl j=> ∃g,l=(pB g)/\ K (pB g) j) (K (pB false) f)):aa prog 36 [.list 3 b a,.list 12 e d] u0 K:= VC [] [] [] [] [] [] [] func36 h
theorem aac.c{a:Option Addr}(h: bZ (α:=Option Addr) (λf=> nP a λT a0=> ∃d,aB u0 T a0 1=some [pI d]/\ nP a λU a1=> ∃e,aB u0 U (a1+1) 1=some [pI e]/\ (aa prog 52 [pI d,pI e] u0 λb9 a9=> ∃o c7,b9=(.aD [pA o,pI c7])/\ bJ a9 39 [pA none] λg b3=> stM g 0 [pA o] b3 λb4=> f (some ⟨g,0,none⟩) b4)/\ (bJ u0 39 [pA none] λi b5=> aa prog 52 [pI d,pI e] b5 λc0 b6=> ∃p c8,c0=(.aD [pA p,pI c8])/\ stM i 0 [pA p] b6 λb7=> f (some ⟨i,0,none⟩) b7)) (λb j=> nP a λV a2=> ∃q,aB j V (a2+4) 1=some [pA q]/\ aa prog 87 [pA q] j λc1 b8=> ∃r s t,c1=(.fn r s t)/\ bk prog (.fn r s t) (λc5 R m=> ∃u v w x y z A B C D E F,c5=[.agg [pI u,pS v,pI w,pI x,pS y,pI z,pI A,pS B,pI C,pB D,pB E,pI F]]/\ aF (pA b) λW a3=> ∃G,aB m W a3 1=some [pA G]/\ aa prog 88 [pA G,.agg [pI u,pS v,pI w,pI x,pS y,pI z,pI A,pS B,pI C,pB D,pB E,pI F]] m λc2 b0=> ∃d0 c9,c2=(.list 1 d0 c9)/\ R none b0) (λa7 n=> PK a7 (nP a λX a4=> ∃H,aB n X (a4+6) 1=some [pA H]/\ aa prog 89 [pA H] n λc3 b1=> ∃I J L,c3=(.fn I J L)/\ bk prog (.fn I J L) (λc6 S k=> ∃d1 M d2 N d3 O d5 d4,c6=[pS d1,.agg [pS M,.list 7 d2 N,.list 19 d3 O,.list 1 d5 d4]]/\ aF (pA b) λY a5=> ∃P,aB k Y a5 1=some [pA P]/\ aa prog 41 [pA P,.agg [pS M,.list 7 .sh N,.list 19 .sh O]] k λc4 b2=> ∃d6,c4=(pI d6)/\ S none b2) (λa8 l=> PK a8 (aF (pA b) λZ a6=> ∃Q,aB l Z a6 1=some [pA Q]/\ K (pA Q) l) (False) []) b1) (False) []) b8)):aa prog 37 [pA a] u0 K:= VC [5,7] [] [(2,⟨[(3,.one (.raw .ptr))],[]⟩)] [(25,[163]),(34,[139,129])] [] [] [] func37 h
theorem aaa.c{d:Option Addr}(h: ak (α:=(Fl×Lq)×Int) (λy a f=> nP d λt A=> ∃F n,aB f t (A+2) 1=some [.list 3 F n]/\ ab (decide (a.2<((List.length n:Nat):Int))) (ak (α:=(Fl×Lq)×Int) (λz b e=> nP d λu B=> ∃G o,aB e u (B+4) 1=some [.list 1 G o]/\ 0<=a.2/\∃(j:List PV),(o)[Int.toNat a.2]?=some j/\ ∃H p,ay j 0 1=some [.list 3 H p]/\ ab (decide (b.2<((List.length p:Nat):Int))) (nP d λv C=> ∃I q,aB e v (C+2) 1=some [.list 3 I q]/\ 0<=a.2/\∃(k:List PV),(q)[Int.toNat a.2]?=some k/\ ∃g,ay k 0 1=some [pS g]/\ nP d λw D=> ∃J r,aB e w (D+4) 1=some [.list 1 J r]/\ 0<=a.2/\∃(l:List PV),(r)[Int.toNat a.2]?=some l/\ ∃L s,ay l 0 1=some [.list 3 L s]/\ 0<=b.2/\∃(m:List PV),(s)[Int.toNat b.2]?=some m/\ ∃M i,ay m 0 1=some [.list 1 M i]/\ aV false 2 40 b.1.1 b.1.2 [[pS g,.list 1 .sh i]] e λx E=> z ((x,(b.1.2++[[pS g,.list 1 .sh i]])),(IntKind.wrap .i64 (b.2+1))) E) (y ((b.1.1,b.1.2),(IntKind.wrap .i64 (a.2+1))) e)) ((a.1.1,a.1.2),0) f) (K (.list 2 a.1.1 a.1.2) f)) ((.nil,[]),0) u0):aa prog 38 [pA d] u0 K:= VC [] [(3,⟨[(3,.one (.list 2)),(4,.one (.raw (.int .i64)))],[]⟩),(6,⟨[(3,.one (.list 2)),(5,.one (.raw (.int .i64)))],[]⟩)] [] [] [] [] [] func38 h
theorem JP.c{b d:Option Addr}(h: (aa prog 58 [pA b] u0 λy u=> ∃n o p,y=(.fn n o p)/\ (aa prog 23 [.fn n o p] u λz v=> ∃r q,z=(.list 2 r q)/\ (aa prog 38 [pA d] v λA w=> ∃t s,A=(.list 2 t s)/\ (aa prog 29 [.list 2 r q,.list 2 t s] w λB a=> ∃i,B=(pB i)/\ ab i (nP d λe f=> (∃F l,aB a e (f+2) 1=some [.list 3 F l]/\ (aa prog 57 [pA b] a λC x=> ∃j,C=(pI j)/\ K (pB (j == ((List.length l:Nat):Int))) x)/\ True)/\ (aa prog 57 [pA b] a λD g=> ∃k,D=(pI k)/\ ∃E m,aB g e (f+2) 1=some [.list 3 E m]/\ K (pB (k == ((List.length m:Nat):Int))) g)/\ True) (((K (pB false) a)/\ True)/\ (K (pB false) a)/\ True))/\ True)/\ True)/\ True)/\ True):aa prog 43 [pA b,pA d] u0 K:= VC [1000001] [] [] [] [] [] [] func43 h
theorem Ev.c{a:Option Addr}(h: nP a λe f=> ∃b,aB u0 e (f+6) 1=some [pA b]/\ aa prog 119 [pA b] u0 λi g=> ∃d,i=(pI d)/\ K (pI d) g):aa prog 57 [pA a] u0 K:= VC [] [] [] [] [] [] [] func57 h
theorem cB.c{m:Fl}{b:Lq}{e:Int}(h: ab (decide (((List.length b:Nat):Int)>e)) (K (pB false) u0) (ak (α:=Int) (λn a d=> ab (decide (a<((List.length b:Nat):Int))) (0<=a/\∃(f:List PV),(b)[Int.toNat a]?=some f/\ ∃j,ay f 1 1=some [pS j]/\ ab (decide ((((ByteArray.size j:Nat):Int):Int)>100)) (K (pB false) d) (0<=a/\∃(g:List PV),(b)[Int.toNat a]?=some g/\ ∃k,ay g 4 1=some [pS k]/\ ab (decide ((((ByteArray.size k:Nat):Int):Int)>100)) (K (pB false) d) (0<=a/\∃(i:List PV),(b)[Int.toNat a]?=some i/\ ∃l,ay i 7 1=some [pS l]/\ ab (decide ((((ByteArray.size l:Nat):Int):Int)>100)) (K (pB false) d) (n (IntKind.wrap .i64 (a+1)) d)))) (K (pB true) d)) (0) u0)):aa prog 69 [.list 12 m b,pI e] u0 K:= VC [] [(4,⟨[(5,.one (.raw (.int .i64)))],[]⟩)] [] [] [] [] [] func69 h
theorem dK.c{k l:Fl}{b d:Lq}(h: ab (((List.length b:Nat):Int) != ((List.length d:Nat):Int)) (K (pB false) u0) (ak (α:=Int) (λm a e=> ab (decide (a<((List.length b:Nat):Int))) (0<=a/\∃(f:List PV),(b)[Int.toNat a]?=some f/\ ∃i,ay f 0 1=some [pI i]/\ 0<=a/\∃(g:List PV),(d)[Int.toNat a]?=some g/\ ∃j,ay g 0 1=some [pI j]/\ ab (i != j) (K (pB false) e) (m (IntKind.wrap .i64 (a+1)) e)) (K (pB true) e)) (0) u0)):aa prog 77 [.list 1 k b,.list 1 l d] u0 K:= VC [] [(4,⟨[(5,.one (.raw (.int .i64)))],[]⟩)] [] [] [] [] [] func77 h
end Go.Proofs.YtbodiiomcfgokaaGreat
namespace Go.aK
open Go.RowKit
section
variable {P:Program} {w:World} {n:Nat} {t:TypeId} {cs:List Value}
section
variable {H:Type} {enc:TypeId×Value->H} {r:Reach} {base:Nat} {v:Value} {d:DataW H} {p:List MemPlace}
theorem qL{T:Type}{pv:T->List PV}{Q:T->Prop}{fs:Array Field}(ht:P.underlying t=some (.struct fs))(he:∀m cs,Reads P w m t cs->∃s,bF (gA w) (pv s) cs/\Q s)(hv:Value.okWide P w r base t v)(h:DataW.Trod enc P w 0 (λ_=>true) true t v d p):
  ∃s,cy (gA w) (.agg (pv s)) v/\Q s:=by
 simp only[Value.okWide,ht]at hv
 obtain⟨cs,rfl,_,_⟩:=hv
 obtain⟨n,hn⟩:=Reads.of h
 obtain⟨s,e,hq⟩:=he n _ hn
 exact⟨s,e.pT,hq⟩
end
end
end Go.aK
namespace Go.Proofs.YtbodiiomcfgokaaGreat
open Go.Proofs.Tryz Go.aK Go.RowKit
theorem rh(f:Fl)(l:List af)(n:Nat)(OK:n<=1000000):ao prog 69 [.list 12 f (l.map af.pv),pI (n:Nat)] λp=>∃q:Bool,p=pB q/\(q=true->l.length<=n):=by
 refine ao.of (cB.c (ab.mk (λh=>⟨false,rfl,λh=>by cases h⟩) (λh=>?_)))
 have hn:l.length<=n:=by simpa using h
 refine ak.each (n:=l.length) (by omega) (λ_ _=>True) trivial (λk u next hk _ ar=>?_) (λu next _=>ab.f (by simp) ⟨true,rfl,λ_=>hn⟩)
 refine ab.t (by simpa using hk) ⟨by omega,_,aw hk,_,rfl,ab.mk (λ_=>⟨false,rfl,λh=>by cases h⟩) (λ_=>⟨by omega,_,aw hk,_,rfl,ab.mk (λ_=>⟨false,rfl,λh=>by cases h⟩) (λ_=>⟨by omega,_,aw hk,_,rfl,ab.mk (λ_=>⟨false,rfl,λh=>by cases h⟩) (λ_=>ar _ trivial)⟩)⟩)⟩
theorem lE(f:Fl)(l:List af)(n:Nat)(OK:n<=1000000):ao prog 16 [.list 12 f (l.map af.pv),pI (n:Nat)] λp=>∃q:Bool,p=pB q/\(q=true->l.length<=n):=by
 refine ao.of (cD.c ?_)
 exact(rh f l n OK).call λp ⟨q,e,h⟩=>⟨q,e,q,rfl,h⟩
end Go.Proofs.YtbodiiomcfgokaaGreat
namespace Go.aK
open Go.RowKit
section
variable (M:MD) (a0:Option Addr) (u0:Mem) (K:Kq) (ek:PV) (fg fp fd:FuncId)
def MD.len(fl:FuncId):Prop:=
 ab (Option.isNone a0)
 (K (pI (0)) u0)
 (nP a0 λb o=>
  ∃x,aB u0 b o 1=some [pA x]/\
  aa M.S.P fl [pA x] u0 λv u=>
  ∃n,v=(pI n)/\
  K (pI n) u)
end
namespace Wu
variable {M:MD} {KY VL κ:Type} {pr:KY×VL->List PV} {arg:KY×VL->PV} {pk:KY->List PV} {db:KY->PV} {pl:VL->List PV} {gI:VL->PV} {z:VL} {key:KY×VL->κ} {ck:κ->κ->Int} (O:Wu M pr arg pk db pl gI z key ck)
end Wu
theorem MD.K_{M:MD}{El:Type}{pr:El->List PV}{n fl:FuncId}(hn:∀{a0:Option Addr} {u0:Mem} {K:Kq},M.len a0 u0 K fl->aa M.S.P n [pA a0] u0 K)
  (hlen:∀ ⦃L:List aY⦄ ⦃μ:Mem⦄ ⦃b:Nat⦄ ⦃l:List El⦄,Ow (cT M.S.TS M.S.TE M.S.W b (l.map pr)::L) μ->∀ ⦃K:Kq⦄,K (pI (l.length:Nat)) μ->aa M.S.P fl [pP b 0] μ K)
  ⦃L:List aY⦄ ⦃μ:Mem⦄ ⦃m:Nat⦄ ⦃l:List El⦄ (hO:Ow (eV M pr m l::L) μ) ⦃K:Kq⦄ (hk:K (pI (l.length:Nat)) μ):aa M.S.P n [pP m 0] μ K:=by
 obtain⟨s,hO⟩:=eV.open_ hO
 exact hn (ab.f rfl ⟨_,hO.rd 0 rfl (by simp),hlen hO.swap ⟨_,rfl,hk⟩⟩)
end Go.aK
namespace Go.Proofs.YtbodiiomcfgokaaGreat
open Go.Proofs.Tryz Go.aK Go.RowKit
namespace RP
theorem Ta{a0:Option Addr}{u0:Mem}{K:Kq}(h:D.len a0 u0 K):aa prog 184 [pA a0] u0 K:=VC [] [] [] [] [] [] [] func184 h
def K_:=Ps.K_ (D:=D) (pr:=pv) Ta
theorem aaS{a0:Option Addr}{u0:Mem}{K:Kq}(h:M.len a0 u0 K 184):aa prog 119 [pA a0] u0 K:=VC [] [] [] [] [] [] [] func119 h
def af3:=MD.K_ (M:=M) (pr:=pv) aaS λ_ _ _ _ hO _ hk=>K_ hO hk
end RP
theorem abT{ts us:List cf}(h:ts.Pairwise λa b=>a.tags≠b.tags)(hp:ts.Perm us):cR ts=cR us:=by
 have h2:us.Pairwise λa b=>a.tags≠b.tags:=hp.pairwise h λ{a b} uk e=>uk e.symm
 exact CA h2 (fQ h).1 λy=>((fQ h).2 y).trans hp.mem_iff
section
variable {n:Nat} {x:NC} {es:List af} {ps:List Prod} {w:Nat}
theorem afY{L:List aY}{μ:Mem}(hO:Ow (bR n x es ps w::L) μ){K:Kq}(hk:∀μ',Ow (bR n x es ps w::L) μ'->K (pI ((ps.length:Nat):Int)) μ'):aa prog 57 [pP n 0] μ K:=by
 obtain⟨T,ms,ids,tk,ct,fr,mn,⟨hR,dQ⟩,h1⟩:=bR.open_ hO
 refine Ev.c ⟨_,aE (an.qz (x:=x) (es:=es) (ms:=ms) (ids:=ids) h1 (by simp)) (by simp),?_⟩
 refine RP.af3 (l:=ps.map (fZ T.B)) (Ow.ord [2] h1) ⟨_,rfl,?_⟩
 rw[List.length_map]
 exact hk μ hO
end
open K6
def abK(es:List af)(p:Prod):List Mt:=(qA es p).map λt=>⟨p.name,t.tags⟩
theorem abM{es:List af}(h:xu es)(p:Prod):abK es p=eB es p:=by
 unfold abK eB
 rw[<- Sg h,List.map_map];rfl
theorem abH{es fs:List af}(h:es.Perm fs)(hn:xu es)(p:Prod):eB es p=eB fs p:=by
 unfold eB
 rw[abT (dv hn p.conds) (kX h p.conds)]
theorem aas{es fs:List af}(h:es.Perm fs)(hn:xu es)(ps:List Prod):allM es ps=allM fs ps:=by
 unfold allM
 congr 1
 funext p;exact abH h hn p
theorem yZ.ne{x:NC}{es:List af}{ps:List Prod}{y:tq}(h:yZ x es ps y):xu es:=kM h.up
theorem yZ.all{x:NC}{es:List af}{ps:List Prod}{y:tq}(h:yZ x es ps y):y.ps.flatMap (abK y.es)=allM es ps:=by
 rw[aas h.es h.ne,h.ps]
 unfold allM
 congr 1
 funext p;exact abM h.ok.ne p
theorem ns{α:Type}(f:α->Nat)(p:α->Bool):∀l:List α,((l.filter p).map f).sum<=(l.map f).sum
 |[]=>Nat.le_refl _
 |x::l=>by
  have:=ns f p l
  rw[List.filter_cons]
  split<;>simp only[List.map_cons,List.sum_cons]<;>omega
theorem Cq{es:List af}{A P:List Prod}(hA:ca aI cM A)(hP:ca aI cM P)(h:∀q∈A,q∈P):bK es A<=bK es P:=by
 classical
 have e:A=P.filter λq=>decide (q∈A):=ca.ext aP hA (hP.filter _) λq=>by
  rw[List.mem_filter,decide_eq_true_eq]
  exact⟨λhq=>⟨h q hq,hq⟩,λhq=>hq.2⟩
 rw[e]
 unfold bK
 exact ns _ _ _
theorem zb{T:Type}{ck:T->T->Int}(hc:oF ck){U:Type}{key:U->T}{l:List U}(h:ca ck key l){a b:U}(ha:a∈l)(hb:b∈l)(e:key a=key b):a=b:=by
 have h1:=(aM hc h (k:=key a) (x:=a)).2 ⟨ha,rfl⟩
 have h2:=(aM hc h (k:=key a) (x:=b)).2 ⟨hb,e.symm⟩
 rw[h1]at h2;exact Option.some.inj h2
theorem aau{S T:Type}{g:S->T}{pv:T->List PV}{l:List S}{k:Nat}(hk:k<l.length):((l.map g).map pv)[Int.toNat (k:Int)]?=some (pv (g l[k])):=by
 rw[List.map_map];exact aw hk
section
variable {r:Nat} {x:tq}
theorem jf.adV(h:jf x){p:Prod}(hp:p∈x.ps):(qA x.es p).length<=1024:=by
 have h1:=Jg h.b.1 (h.le p hp)
 have h2:=h.b.2
 rw[xB h.ne];omega
theorem abO(es:List af)(p:Prod):(abK es p).length=(qA es p).length:=by unfold abK;rw[List.length_map]
theorem jf.abg(h:jf x)(i:Nat):((x.ps.take i).flatMap (abK x.es)).length<=102400:=by
 rw[List.length_flatMap]
 have h1:=L_ (l:=x.ps.take i) (f:=λp=>(abK x.es p).length) (b:=1024) λp hp=>by rw[abO];exact h.adV (List.mem_of_mem_take hp)
 have h2:=h.Bg
 rw[List.length_take]at h1
 omega
theorem aaR(h:jf x){L:List aY}{μ:Mem}(hO:Ow (aW r x::L) μ){K:Kq}(hk:∀f μ',Ow (aW r x::L) μ'->K (.list 2 f ((x.ps.flatMap (abK x.es)).map Mt.pv)) μ'):aa prog 38 [pP r 0] μ K:=by
 have ui:=h.Bg
 have zC:=λp hp=>h.adV (p:=p) hp
 have pq:=h.abg
 obtain⟨B,M,ps,es,tk,mo⟩:=x
 have iB:tk=ps.map (qA es):=h.tk
 subst iB
 dsimp only at ui zC pq hk |-
 obtain⟨f,sd⟩:=aW.open_ hO
 refine aaa.c ?_
 refine ak.dm (n:=ps.length) (by omega) (λi s u=>s.2=((ps.take i).flatMap (abK es)).map Mt.pv/\Ow (eH s.1 ((ps.take i).flatMap (abK es)).length 2::Pt r 47 (tq.pv ⟨B,M,ps,es,ps.map (qA es),mo⟩ f)::L) u) ⟨rfl,sd.nil (.inl rfl)⟩ ?_ ?_
 ·rintro i ⟨f1,_⟩ u next hi ⟨rfl,h1⟩ ar
  have hl0:=pq i
  have zE:=zC _ (List.getElem_mem hi)
  refine⟨_,_,h1.rd 1 rfl (by simp),ab.t (by simpa using hi) ?_⟩
  refine ak.dm (n:=(qA es ps[i]).length) (by omega) (λk s u=>s.2=((ps.take i).flatMap (abK es)++(abK es ps[i]).take k).map Mt.pv/\Ow (eH s.1 (((ps.take i).flatMap (abK es)).length+k) 2::Pt r 47 (tq.pv ⟨B,M,ps,es,ps.map (qA es),mo⟩ f)::L) u) ⟨by simp,h1⟩ ?_ ?_
  ·rintro k ⟨f2,_⟩ u2 qc fH ⟨rfl,h2⟩ gq
   have hkm:k<(abK es ps[i]).length:=by rw[abO];exact fH
   refine⟨_,_,h2.rd 1 rfl (by simp),by omega,_,aau hi,_,_,rfl,ab.t (by simpa using fH) ⟨_,_,h2.rd 1 rfl (by simp),by omega,_,aw hi,_,rfl,_,_,h2.rd 1 rfl (by simp),by omega,_,aau hi,_,_,rfl,by omega,_,aw fH,_,_,rfl,?_⟩⟩
   have ek:Mt.pv (abK es ps[i])[k]=[pS ps[i].name,.list 1 .sh ((qA es ps[i])[k].tags.map gz)]:=by simp[abK]
   refine h2.app (by rw[List.length_map,List.length_append,List.length_take,Nat.min_eq_left (by omega)]) (by show(_+k+1)*40<=_;omega) (by show _+k+1<_;omega) λf3 u3 h3=>gq _ _ ⟨?_,h3⟩
   rw[fx hkm,<- List.append_assoc,List.map_append (l₂:=[(abK es ps[i])[k]]),List.map_singleton,ek]
  ·rintro⟨f2,_⟩ u2 qc ⟨rfl,h2⟩
   refine⟨_,_,h2.rd 1 rfl (by simp),by omega,_,aau hi,_,_,rfl,ab.f (by simp) (ar _ _ ⟨?_,?_⟩)⟩
   ·rw[<- abO,List.take_length,zL hi]
   ·rw[zL hi,List.length_append,abO];exact h2
 ·rintro⟨f1,_⟩ u next ⟨rfl,h1⟩
  rw[List.take_length]at h1 |-
  exact⟨_,_,h1.rd 1 rfl (by simp),ab.f (by simp) (hk f1 u (aW.shut (f:=f) h1.drop))⟩
end
theorem vz(f g:Fl)(l m:List Int)(hl:l.length<=1000000000):aZ 77 [.list 1 f (l.map gz),.list 1 g (m.map gz)] (l=m):=by
 refine ao.of (dK.c (ab.mk (λh=>aZ.no (i_ h)) (λh=>?_)))
 refine fE (l:=l) (m:=m) (n:=l.length) rfl (ix h) (by omega) (λk hk bW u next hy cm=>?_) (λu next e=>ab.f (by simp) (aZ.yes e))
 exact ab.t (by simpa using hk) ⟨by omega,_,aw hk,_,rfl,by omega,_,aw bW,_,rfl,ab.mk (λh=>aZ.no (cm λe=>by rw[e]at h;simp at h)) (λh=>hy (by simpa using h) _)⟩
theorem JS{a b:Mt}(h1:a.name=b.name)(h2:a.tags=b.tags):a=b:=by cases a;cases b;simp_all
theorem sw(f g:Fl)(l m:List Mt)(hl:l.length<=1000000000)(ht:∀x∈l,x.tags.length<=1000000000):aZ 29 [.list 2 f (l.map Mt.pv),.list 2 g (m.map Mt.pv)] (l=m):=by
 refine ao.of (eJ.c (ab.mk (λh=>aZ.no (i_ h)) (λh=>?_)))
 refine fE (l:=l) (m:=m) (n:=l.length) rfl (ix h) (by omega) (λk hk bW u next hy cm=>?_) (λu next e=>ab.f (by simp) (aZ.yes e))
 refine ab.t (by simpa using hk) ⟨by omega,_,aw hk,_,rfl,by omega,_,aw bW,_,rfl,ab.mk (λh=>aZ.no (cm λe=>?_)) (λh=>⟨by omega,_,aw hk,_,_,rfl,by omega,_,aw bW,_,_,rfl,?_⟩)⟩
 ·rw[e,dX]at h;cases h
 ·have hn:l[k].name=m[k].name:=bI.1 (nt h)
  exact(vz .sh .sh _ _ (ht _ (List.getElem_mem hk))).call (λe=>⟨_,rfl,ab.f rfl (hy (JS hn e) _)⟩) (λaT=>⟨_,rfl,ab.t rfl (aZ.no (cm λe=>aT (by rw[e])))⟩)
theorem qS{p:Prod}(h:lb p):kO p:=⟨h.1,by have:=h.2.1;omega,by have:=h.2.2.1;omega⟩
theorem iz(f:Fl)(ps:List Prod)(n:Nat)(hn:n<=1000000):ao prog 30 [.list 3 f (ps.map Prod.pv),pI (n:Nat)] λv=>∃q:Bool,v=pB q/\(q=false->ps.length<=n/\∀p∈ps,kO p):=by
 refine ao.of (cG.c (ab.mk (λ_=>⟨true,rfl,λh=>by cases h⟩) (λh=>?_)))
 have hl:ps.length<=n:=by simpa using h
 refine ak.each (n:=ps.length) (by omega) (λk _=>∀p∈ps.take k,kO p) (by simp) (λk u next hk hI ar=>?_) (λu next hI=>ab.f (by simp) ⟨false,rfl,λ_=>⟨hl,by rwa [List.take_length]at hI⟩⟩)
 refine ab.t (by simpa using hk) ⟨by omega,_,aw hk,_,_,_,_,_,rfl,(wy .sh .sh ps[k]).call ?_⟩
 rintro _ ⟨q,rfl,hq⟩
 refine⟨_,rfl,ab.mk (λ_=>⟨true,rfl,λh=>by cases h⟩) (λhf=>ar _ λp hp=>?_)⟩
 rcases(dg hk).1 hp with hp|rfl
 ·exact hI p hp
 ·exact qS (hq hf)
theorem td(f1 f2:Fl)(ps:List Prod)(es:List af):ao prog 36 [.list 3 f1 (ps.map Prod.pv),.list 12 f2 (es.map af.pv)] λv=>∃q:Bool,v=pB q/\(q=true->oR ps 6/\es.length<=30):=by
 refine ao.of (eW.c ?_)
 refine(iz f1 ps 6 (by omega)).call ?_
 rintro _ ⟨q,rfl,hq⟩
 refine⟨_,rfl,ab.mk (λhf=>?_) (λ_=>⟨false,rfl,λh=>by cases h⟩)⟩
 refine(lE f2 es 30 (by omega)).call ?_
 rintro _ ⟨q2,rfl,Gr⟩
 exact⟨_,rfl,_,rfl,λht=>⟨hq (nb hf),Gr ht⟩⟩
theorem bR.facts{n:Nat}{x:NC}{es:List af}{ps:List Prod}{w:Nat}{L:List aY}{μ:Mem}(h:Ow (bR n x es ps w::L) μ):((bK es ps:Nat):Int)<=x.M/\x.M<=1024/\ca aA aH es/\ca aI cM ps/\(∀q∈ps,l_ q)/\ps.length<=w:=by
 obtain⟨_,_,_,_,_,_,_,⟨hR,hs⟩,_⟩:=bR.open_ h
 exact⟨hs,hR.mb.2,hR.core.use.inv.ua,hR.si,hR.rE,hR.xt⟩
theorem iq{es:List af}(hn:xu es)(p:Prod):(eB es p).length=(au es p.conds).length:=by unfold eB;rw[List.length_map,gQ (dv hn _)]
theorem ko{es:List af}(hn:xu es)(ps:List Prod):(allM es ps).length=bK es ps:=by
 unfold allM bK
 rw[List.length_flatMap]
 congr 1
 exact List.map_congr_left λp _=>iq hn p
theorem la{es:List af}(hn:xu es){p:Prod}(hp:l_ p):∀m∈eB es p,m.tags.length<=1000:=by
 intro m hm
 obtain⟨t,ht,rfl⟩:=List.mem_map.1 hm
 have ht:=((fQ (dv hn p.conds)).2 t).1 ht
 rw[<- gC]at ht
 obtain⟨q,hq,rfl⟩:=List.mem_map.1 ht
 have h1:=jC (es:=es) (l:=p.conds) (ts:=[ub]) (m:=0) (by simp[ub]) q hq
 obtain⟨_,_,_,g4,_⟩:=hp.facts
 have:=ch p.conds
 show q.tags.length<=1000
 omega
theorem Ac{es:List af}(hn:xu es){ps:List Prod}(hp:∀q∈ps,l_ q):∀m∈allM es ps,m.tags.length<=1000000000:=by
 intro m hm
 obtain⟨p,h1,h2⟩:=List.mem_flatMap.1 hm
 have:=la hn (hp p h1) m h2
 omega
section
variable {n:Nat} {x:NC} {es:List af} {ps:List Prod} {w:Nat}
theorem Bk(hw:w<=1000){L:List aY}{μ:Mem}(hO:Ow (bR n x es ps w::L) μ){F:Kq}(hk:∀f μ',Ow (bR n x es ps w::L) μ'->F (.list 2 f ((allM es ps).map Mt.pv)) μ'):aa prog 23 [JH n] μ F:=by
 obtain⟨h1,h2,h3,_⟩:=bR.facts hO
 exact zW (l:=allM es ps) (BP hw) (by rw[ko (kM h3)];omega) hO hk
theorem SO(f g:Fl){L:List aY}{μ:Mem}(hO:Ow (bR n x es ps w::L) μ){l:List Mt}(e:allM es ps=l){F:Kq}(hF:F (pB true) μ):aa prog 29 [.list 2 f ((allM es ps).map Mt.pv),.list 2 g (l.map Mt.pv)] μ F:=by
 obtain⟨h1,h2,h3,_,h5,_⟩:=bR.facts hO
 have hl:=ko (kM h3) ps
 exact(sw f g _ _ (by omega) (Ac (kM h3) h5)).call (λ_=>hF) (λaT=>absurd e aT)
end
def tgE(es:List af)(i:Nat):af:={(es[i]?.getD ⟨⟨0,⟨#[]⟩,0⟩,⟨0,⟨#[]⟩,0⟩,⟨0,⟨#[]⟩,0⟩,false,false,0⟩)with tag:=((1000+i:Nat):Int)}
theorem aaz{es:List af}{i:Nat}(h:i<es.length):(tgE es i).pv=[pI es[i].id.k,pS es[i].id.t,pI es[i].id.n,pI es[i].attr.k,pS es[i].attr.t,pI es[i].attr.n,pI es[i].value.k,pS es[i].value.t,pI es[i].value.n,pB es[i].acc,pB es[i].goal,pI ((1000+i:Nat):Int)]:=by
 unfold tgE;rw[List.getElem?_eq_getElem h];rfl
def RC(es:List af)(k:Nat):List af:=(List.range k).map (tgE es)
theorem Ji(es:List af)(k:Nat):RC es (k+1)=RC es k++[tgE es k]:=by unfold RC;rw[List.range_succ,List.map_append];rfl
theorem Sj(es:List af)(k:Nat):∀e∈RC es k,(1000:Int)<=e.tag/\e.tag<1000+k:=by
 intro e he
 obtain⟨i,hi,rfl⟩:=List.mem_map.1 he
 have:=List.mem_range.1 hi
 show(1000:Int)<=((1000+i:Nat):Int)/\((1000+i:Nat):Int)<1000+k
 omega
theorem pO{ps:List Prod}(h:ca aI cM ps):ps.Nodup:=by
 refine h.imp λ{a b} uk e=>?_
 rw[e]at uk
 rw[aP.self]at uk;omega
theorem mj.ah5{B M:Int}{es:List af}{P A:List Prod}(hP:ca aI cM P)(hA:ca aI cM A){p:Prod}{e:Int}{A':List Prod}(h:mj B M es A p e A')(hp:p∈P)(eZ:∀q∈A,q∈P)(cm:p∉A)(aO:(cg p).2.1=0)(AR:¬du B es p.conds)(hs:((bK es P:Nat):Int)<=M):e=0/\A'=bc aI cM p A:=by
 have hn:aL aI cM p.name A=none:=(bx aP).2 λq hq e=>cm ((zb aP hP (eZ q hq) hp e)▸hq)
 refine h.uniq (.ok aO hn AR ?_)
 have h1:=Cq (es:=es) (hA.ins aP p) hP λq hq=>by
  rcases(bj aP).1 hq with rfl|⟨hq,_⟩
  ·exact hp
  ·exact eZ q hq
 have h2:=pX (es:=es) (nc (ck:=aI) (key:=cM) aP (L:=A) (x:=p) hn)
 have h3:bK es (p::A)=(au es p.conds).length+bK es A:=by unfold bK;simp
 omega
section
variable {n r:Nat} {x:NC} {es:List af} {ps:List Prod} {w:Nat} {y:tq}
theorem aav(hw:w<=1000)(hb:yZ x es ps y){L:List aY}{u:Mem}(h:Ow (bR n x es ps w::aW r y::L) u){F:Kq}(hF:∀u',Ow (bR n x es ps w::aW r y::L) u'->F (pB true) u'):
  aa prog 43 [pP n 0,pP r 0] u F:=by
 refine JP.c ?_
 refine⟨(DW n).call ⟨_,_,_,rfl,Bk hw h λf u1 h1=>⟨_,_,rfl,aaR hb.ok (Ow.swap h1) λg u2 h2=>⟨_,_,rfl,?_,trivial⟩,trivial⟩,trivial⟩,trivial⟩
 refine SO _ _ (Ow.swap h2) hb.all.symm ⟨_,rfl,ab.t rfl ?_⟩
 have heq:∀a:Nat,a=y.ps.length->(((a:Nat):Int) == (((y.ps.map Prod.pv).length:Nat):Int))=true:=λa e=>by rw[e,List.length_map];simp
 obtain⟨f1,h3⟩:=aW.open_ h2
 refine⟨⟨_,_,h3.rd 0 rfl (by simp),afY (Ow.swap h2) λu3 h4=>⟨_,rfl,?_⟩,trivial⟩,afY (Ow.swap h2) λu3 h4=>⟨_,rfl,?_⟩,trivial⟩
 ·rw[heq _ (by rw[hb.ps])];exact hF _ h4
 ·obtain⟨f2,h5⟩:=aW.open_ (Ow.swap h4)
  refine⟨_,_,h5.rd 0 rfl (by simp),?_⟩
  rw[heq _ (by rw[hb.ps])];exact hF _ h4
end
@[reducible] def abQ(b:Nat):Tree:=⟨[[]],λ_=>b,λ_=>[],λ_=>0,λ_=>[],λ_=>(none,0)⟩
theorem aap{x:NC}{b:Nat}(aeT:x.root=b)(hT:1<=x.T/\x.T<=1024)(hM:1<=x.M/\x.M<=1024){es:List af}{ids:pt}(hA:eC es [])(hI:kJ es ids)(ht:∀e∈es,1<=e.tag/\e.tag<9223372036854775808):pd x (abQ b) es [] ids (λ_=>[EO]) (λ_=>[]) [] 0 (λ_=>False):=by
 have vV:∀(p:Path) (c:ae),¬p++[c]∈(abQ b).D:=λp c h=>by
  have:p++[c]∈[([]:Path)]:=h
  simp at this
 refine⟨⟨⟨by show[([]:Path)].Nodup;simp,by show[]∈[([]:Path)];simp,λp hp c=>⟨λh=>(by cases h),λh=>absurd h (vV p c)⟩,λp hp=>List.nodup_nil,λp c h=>absurd h (vV p c),λp hp=>?_,λp hp=>?_,λp hp=>?_,λp c h=>absurd h (vV p c),rfl,by show 1<=5000;omega,λp hp j hj=>by cases hj⟩,⟨hA,λk _=>rfl⟩,λp c h=>absurd h (vV p c),⟨λp hp=>?_,λp c h=>absurd h (vV p c),λp c h=>absurd h (vV p c)⟩⟩,λr hr AP _=>?_,hI,aeT,hT,hM,List.Pairwise.nil,by simp,by simp,λp hp=>rfl,ht,by simp,by show 1<=1+16*0;omega⟩
 ·have:p∈[([]:Path)]:=hp
  simp at this;subst this;simp
 ·have:p∈[([]:Path)]:=hp
  simp at this;subst this;trivial
 ·have:p∈[([]:Path)]:=hp
  simp at this;subst this;simp[aj]
 ·have:p∈[([]:Path)]:=hp
  simp at this;subst this;rfl
 ·have:r∈[([]:Path)]:=hr
  simp at this;exact absurd this AP
theorem aaW(t m:Int)(hb:1<=t/\t<=1024/\1<=m/\m<=1024){L:List aY}{μ:Mem}(hO:Ow L μ){K:Kq}
  (h1:∀n x μ',x.T=t->x.M=m->Ow (dc n x [] [] [] (abQ x.root) (λ_=>[EO]) (λ_=>[]) (λ_=>[]) (λ_=>[]) [] L) μ'->K (.aD [pP n 0,pI 0]) μ'):
  aa prog 52 [pI t,pI m] μ K:=by
 refine NO.c ?_
 refine ab.f (decide_eq_false (by omega)) (ab.f (decide_eq_false (by omega)) (ab.f (decide_eq_false (by omega)) (ab.f (decide_eq_false (by omega)) λb25 ajm=>?_)))
 have O1:=hO.new 156 (gK (abQ b25) (λ_=>[EO]) (λ_=>[]) (λ_=>[]) (λ_=>[]) [] ⟨.nil,.nil,.nil,.nil,.nr,.nil,.nil,.nil⟩).pv ajm
 have mkN:∀ν,Ow (Pt b25 156 (gK (abQ b25) (λ_=>[EO]) (λ_=>[]) (λ_=>[]) (λ_=>[]) [] ⟨.nil,.nil,.nil,.nil,.nr,.nil,.nil,.nil⟩).pv::L) ν->Ow (cb (abQ b25) (λ_=>[EO]) (λ_=>[]) (λ_=>[]) (λ_=>[])::L) ν:=λν hν0=>by
  refine cb.in_ (T:=abQ b25) (p:=[]) (A:=[]) (B:=[]) rfl (F:=⟨.nil,.nil,.nil,.nil,.nr,.nil,.nil,.nil⟩) ?_
  refine hν0.tail λν hν=>?_
  have h2:Ow (iW 131 1 (.raw (.slice none 0 0)) []::L) ν:=iW.nil _ _ hν
  exact h2.tail λν2 h3=>⟨M0,ν2,Mem.vq ν2,(Mem.GQ ν2).symm,trivial,h3⟩
 have O2:=mkN _ O1
 refine af9 O2 λu al h2=>⟨_,rfl,?_⟩
 refine RT.iy h2 .nil [] (by simp) λu1 el h3=>⟨_,rfl,?_⟩
 refine RI.DX h3 λu2 id h4=>⟨_,rfl,?_⟩
 refine RP.DX h4 λu3 pr h5=>⟨_,rfl,λb31 ajl=>?_⟩
 have O3:=h5.new 137 [pI t,pI m,pP b25 0,pP al 0,pP el 0,pP id 0,pP pr 0] ajl
 let x:NC:=⟨t,m,b25,al,el,id,pr⟩
 refine h1 b31 x _ rfl rfl ?_
 have h6:Ow (Pt b31 137 x.pv::bV al [] []::RI.cU id []::cb (abQ b25) (λ_=>[EO]) (λ_=>[]) (λ_=>[]) (λ_=>[])::RP.cU pr []::RT.At el []::L) _:=Ow.ord [0,3,1,2,0,0] O3
 have h7:Ow (Pt b31 137 x.pv::bV al [] []::iM id []::cb (abQ b25) (λ_=>[EO]) (λ_=>[]) (λ_=>[]) (λ_=>[])::RP.cU pr []::RT.At el []::L) _:=h6.tail λ_ h=>h.tail λ_ h=>h.imp λν hν=>Ow.one hν
 exact Ow.pack (L1:=[Pt b31 137 x.pv,bV al [] [],iM id []]) h7
theorem abS{dd:dL}(hu:ca aA cA dd)(h:gE [] dd):dd=[]:=by
 cases dd with
 |nil=>rfl
 |cons a l=>
  have h1:=h a.1
  have h2:aL aA cA a.1 (a::l)=some a:=(aM ax hu).2 ⟨by simp,rfl⟩
  rw[h2]at h1
  cases h1
theorem abG{es:List af}(hu:ca aA aH es){i:Nat}(hi:i<es.length):aL aA aH es[i].tag (es.take i)=none/\bc aA aH es[i] (es.take i)=es.take (i+1):=by
 have hut:ca aA aH (es.take i):=List.Pairwise.sublist (List.take_sublist _ _) hu
 have abz:ca aA aH (es.take (i+1)):=List.Pairwise.sublist (List.take_sublist _ _) hu
 have cm:∀e∈es.take i,aH e≠es[i].tag:=λe he e2=>by
  obtain⟨j,hj,rfl⟩:=List.mem_iff_getElem.1 he
  rw[List.length_take]at hj
  rw[List.getElem_take]at e2
  have:=tS.1 (List.pairwise_iff_getElem.1 hu j i (by omega) hi (by omega))
  have e2:es[j].tag=es[i].tag:=e2
  simp only[aH]at this
  omega
 refine⟨(bx ax).2 cm,ca.ext ax (hut.ins ax _) abz λe=>?_⟩
 rw[bj ax,fx hi,List.mem_append,List.mem_singleton]
 constructor
 ·rintro(h|⟨h,_⟩)
  ·exact .inr h
  ·exact .inl h
 ·rintro(h|h)
  ·exact .inr ⟨h,cm e h⟩
  ·exact .inl h
theorem aaV{n:Nat}{x:NC}{es:List af}{ps:List Prod}{w:Nat}(hw:w<=50)(IY:es.length<=1000)(AR:∀q∈ps,¬du x.T es q.conds){L:List aY}{μ:Mem}(hO:Ow (bR n x es ps w::L) μ){K:Kq}
  (hk:∀m x' μ',x'.T=x.T->x'.M=x.M->Ow (bR m x' es ps w::bR n x es ps w::L) μ'->K (pP m 0) μ'):
  aa prog 37 [pP n 0] μ K:=by
 obtain⟨T,ms,ids,tk,ct,fr,mn,⟨hR,dQ⟩,h1⟩:=bR.open_ hO
 have hu:=hR.core.use.inv.ua
 have ow:=hR.xt
 refine aac.c ⟨λs u=>∃b3 m x',s=some ⟨b3,0,none⟩/\x'.T=x.T/\x'.M=x.M/\Ow (Pt b3 39 [pP m 0]::dc m x' [] [] [] (abQ x'.root) (λ_=>[EO]) (λ_=>[]) (λ_=>[]) (λ_=>[]) [] (dc n x es ms ids T tk ct fr mn ps L)) u,?_,?_⟩
 ·refine⟨_,aE (an.qz (x:=x) (es:=es) (ms:=ms) (ids:=ids) h1 (by simp)) (by simp),_,aE (an.qz (x:=x) (es:=es) (ms:=ms) (ids:=ids) h1 (by simp)) (by simp),?_,?_⟩
  ·refine aaW x.T x.M ⟨hR.tb.1,hR.tb.2,hR.mb.1,hR.mb.2⟩ h1 λm x' u hT hM h2=>⟨_,_,rfl,λb3 DB=>?_⟩
   exact(h2.new 39 [.raw (.pointer none)] DB).st 0 rfl (by simp) λu3 h3=>⟨b3,m,x',rfl,hT,hM,h3⟩
  ·intro b3 DB
   refine aaW x.T x.M ⟨hR.tb.1,hR.tb.2,hR.mb.1,hR.mb.2⟩ (h1.new 39 [.raw (.pointer none)] DB) λm x' u hT hM h2=>⟨_,_,rfl,?_⟩
   exact h2.st 4 rfl (by simp) λu3 h3=>⟨b3,m,x',rfl,hT,hM,Ow.ord [4] h3⟩
 rintro _ u ⟨b3,m,x',rfl,hT,hM,h2⟩
 dsimp only[nP,nn,aF]
 refine⟨_,aE (an.qz (x:=x) (es:=es) (ms:=ms) (ids:=ids) (show Ow (an n x es ms ids::Pt b3 39 [pP m 0]::an m x' [] [] []::cb (abQ x'.root) (λ_=>[EO]) (λ_=>[]) (λ_=>[]) (λ_=>[])::RP.cU x'.pr []::RT.At x'.el []::cb T tk ct fr mn::RP.cU x.pr (ps.map (fZ T.B))::RT.At x.el es::L) u from Ow.ord [5] h2) (by simp)) (by simp),(RT.rX x.el).call ⟨_,_,_,rfl,?_⟩⟩
 refine bk.own (RT.fN x.el es (by omega)) (Ow.ord [8] h2)
  (λi u=>∃jP,eC (es.take i) []/\kJ (es.take i) jP/\Ow (Pt b3 39 [pP m 0]::dc m x' (es.take i) [] jP (abQ x'.root) (λ_=>[EO]) (λ_=>[]) (λ_=>[]) (λ_=>[]) [] (dc n x es ms ids T tk ct fr mn ps L)) u) (λ_ _=>False) (λk=>fJ.ex λ_=>fJ.and (fJ.and (fJ.own _))) (λ_ _ _ _ h=>h.elim) (λμ' h'=>?_) ?_ ?_ (λ_ _ h=>h.elim)
 ·refine⟨[],eC.nil,⟨List.Pairwise.nil,by simp,by simp,by simp,by simp⟩,Ow.ord [1,1,1,1,1,1,1,1,0] h'⟩
 ·rintro i QD u2 R ⟨jP,hA,hI,h3⟩ bU _
  have hi:i<es.length:=by simpa using QD
  obtain⟨t1,t2⟩:=abG hu hi
  rw[List.getElem_map]
  refine⟨_,_,_,_,_,_,_,_,_,_,_,_,rfl,_,h3.rd 0 rfl (by simp),?_⟩
  refine aah hA hI (e:=es[i]) t1 (by rw[List.length_take];omega) (Ow.ord [1,3] h3) λdd EW f u4 Yg AY hS h4=>⟨_,_,rfl,bU _ ?_⟩
  rw[t2]at Yg AY h4
  obtain rfl:=abS Yg.pJ hS
  exact⟨EW,Yg,AY,Ow.ord [2,0,1,1,0] h4⟩
 ·rintro u2 ⟨jP,hA,hI,h3⟩
  rw[List.length_map,List.take_length]at hA hI h3
  dsimp only[PK]
  have aO:=aap (x:=x') rfl (by rw[hT];exact hR.tb) (by rw[hM];exact hR.mb) hA hI hR.tags
  have hmb:=hR.mb
  have h4:Ow (bR m x' es [] 0::Pt b3 39 [pP m 0]::dc n x es ms ids T tk ct fr mn ps L) u2:=bR.shut aO (by show((bK es []:Nat):Int)<=x'.M;rw[hM];simp[bK];omega) (Ow.ord [1,1,1,1,0] h3)
  refine⟨_,aE (an.qz (x:=x) (es:=es) (ms:=ms) (ids:=ids) (show Ow (an n x es ms ids::bR m x' es [] 0::Pt b3 39 [pP m 0]::cb T tk ct fr mn::RP.cU x.pr (ps.map (fZ T.B))::RT.At x.el es::L) u2 from Ow.ord [2] h4) (by simp)) (by simp),(RP.o_ x.pr).call ⟨_,_,_,rfl,?_⟩⟩
  have nR:((ps.map (fZ T.B)).map λy=>[RP.db y.1,RP.gI y.2]).length=ps.length:=by simp
  refine bk.own (RP.fG x.pr (ps.map (fZ T.B)) (by simp;omega)) (Ow.ord [4] h4)
   (λi u=>∃A,(∀q,q∈A↔q∈ps.take i)/\Ow (bR m x' es A i::Pt b3 39 [pP m 0]::dc n x es ms ids T tk ct fr mn ps L) u) (λ_ _=>False) (λk=>fJ.ex λ_=>fJ.and (fJ.own _)) (λ_ _ _ _ h=>h.elim) (λμ' h'=>⟨[],by simp,Ow.ord [1,1,1,1,0] h'⟩) ?_ ?_ (λ_ _ h=>h.elim)
  ·rintro i QD u3 R ⟨A,Yg,h5⟩ bU _
   have hi:i<ps.length:=by simpa using QD
   have hm:=List.getElem_mem hi
   have abf:=hR.rE _ hm
   obtain⟨_,_,_,g4,g5,_,_⟩:=abf.facts
   obtain⟨_,_,_,aa_,_,_⟩:=bR.facts h5
   rw[List.getElem_map,List.getElem_map]
   refine⟨_,_,_,_,_,_,_,_,rfl,_,h5.rd 1 rfl (by simp),?_⟩
   refine GM (by omega) .sh .sh ps[i] abf.qf (by omega) (by omega) h5 λe A' u4 ha h6=>⟨_,rfl,bU _ ?_⟩
   have Bv:=pO hR.si
   have cm:ps[i]∉A:=λh=>by
    obtain⟨j,hj,e⟩:=List.mem_iff_getElem.1 ((Yg _).1 h)
    rw[List.getElem_take]at e
    rw[List.length_take]at hj
    have:=(List.getElem_inj Bv).1 e
    omega
   obtain⟨_,rfl⟩:=ha.ah5 hR.si aa_ hm (λq hq=>List.mem_of_mem_take ((Yg q).1 hq)) cm abf.chk (by rw[hT];exact AR _ hm) (by rw[hM];exact dQ)
   refine⟨_,λq=>?_,h6⟩
   rw[bj aP,fx hi,List.mem_append,List.mem_singleton,Yg]
   constructor
   ·rintro(h|⟨h,_⟩)
    ·exact .inr h
    ·exact .inl h
   ·rintro(h|h)
    ·by_cases e:cM q=cM ps[i]
     ·exact .inl (zb aP hR.si (List.mem_of_mem_take h) hm e)
     ·exact .inr ⟨h,e⟩
    ·exact .inl h
  ·rintro u3 ⟨A,Yg,h5⟩
   rw[nR,List.take_length]at Yg
   rw[nR]at h5
   dsimp only[PK]
   obtain⟨_,_,_,aa_,_,_⟩:=bR.facts h5
   obtain rfl:A=ps:=ca.ext aP aa_ hR.si Yg
   refine⟨_,h5.rd 1 rfl (by simp),hk m x' u3 hT hM ?_⟩
   obtain⟨T2,LC,EW,tk2,ct2,fr2,mn2,⟨Ur,abv⟩,h6⟩:=bR.open_ h5
   have h7:Ow (bR m x' es A w::Pt b3 39 [pP m 0]::dc n x es ms ids T tk ct fr mn A L) u3:=bR.shut (Ur.mono ow λ_ h=>h) abv h6
   exact h7.tail λ_ h=>bR.shut hR dQ h.drop
theorem yZ.of{x x':NC}{es:List af}{ps:List Prod}{y:tq}(h:yZ x es ps y)(hT:x'.T=x.T)(hM:x'.M=x.M):yZ x' es ps y:=⟨h.ok,h.B.trans hT.symm,h.M.trans hM.symm,h.ps,h.up,h.es⟩
theorem abb(ps:List Prod)(_:(∀s∈ps,True)/\ps.length<=maxLen)(es:List af)(_:(∀s∈es,True)/\es.length<=maxLen)(more:List af)(_:(∀s∈more,True)/\more.length<=maxLen)(p:Prod):Pure prog 6 [.list 3 .sh (ps.map Prod.pv),.list 12 .sh (es.map af.pv),.list 12 .sh (more.map af.pv),.agg p.pv] (pB true):=by
 refine ao.of (kR.c ?_)
 refine⟨λs u=>s=false->oR ps 6/\es.length<=30/\more.length<=20/\lb p,?_,?_⟩
 ·refine(td .sh .sh ps es).call ?_
  rintro _ ⟨q,rfl,hq⟩
  refine⟨_,rfl,ab.mk (λh h'=>by cases h') (λh=>?_)⟩
  refine(lE .sh more 20 (by omega)).call ?_
  rintro _ ⟨q2,rfl,Gr⟩
  refine⟨_,rfl,ab.mk (λh h'=>by cases h') (λh2=>?_)⟩
  refine(wy .sh .sh p).call ?_
  rintro _ ⟨q3,rfl,Dw⟩
  exact⟨_,rfl,λh3=>⟨(hq (nt h)).1,(hq (nt h)).2,Gr (nt h2),Dw h3⟩⟩
 rintro b u hs
 refine ab.mk (λ_=>dS u) (λhf=>?_)
 obtain⟨hp,he,hmo,RQ⟩:=hs hf
 obtain⟨q1,q2,q3,q4⟩:=RQ
 refine tU .sh .sh (by omega) hp es (by omega) (L:=[]) trivial λn r x fw fW y u1 hT hM ht IY eZ hb h1=>⟨_,_,rfl,ab.f rfl ?_⟩
 obtain⟨dQ,_,hu,IV,TN,ow⟩:=bR.facts h1
 have AR:∀q∈fW,¬du x.T fw q.conds:=λq hq ho=>by
  have h:=hb.ok.le q (by rw[hb.ps];exact hq)
  rw[hb.B]at h
  exact h ((qM hb.es).1 ho)
 have abB:y.es.length<=40:=by rw[<- hb.es.length_eq];exact IY
 have abE:y.ps.length<=20:=by rw[hb.ps];exact ow
 refine aaV (by omega) (by omega) AR h1 λm x' u2 Kv hM' h2=>⟨_,rfl,ab.f rfl ?_⟩
 refine aaR hb.ok (Ow.ord [2] h2) λfa u3 h3=>⟨_,_,rfl,?_⟩
 have abt:((((y.ps.flatMap (abK y.es)).map Mt.pv).length:Nat):Int)<=400:=by
  rw[List.length_map,hb.all,ko (kM hu)];omega
 refine ak.dm (n:=more.length) (by omega) (λi s u=>s.2=(RC more i).map af.pv/\Ow (eH s.1 i 12::aW r y::bR m x' fw fW 20::bR n x fw fW 20::[]) u) ⟨rfl,h3.nil (.inl rfl)⟩ ?_ ?_
 ·rintro i ⟨f1,_⟩ u5 next hi ⟨rfl,h5⟩ ar
  dsimp only at h5 |-
  have ew:IntKind.wrap .i64 (1000+((i:Nat):Int))=((1000+i:Nat):Int):=by rw[az (by omega) (by omega)];omega
  refine ab.t (by simpa using hi) ⟨by omega,_,aw hi,_,_,_,_,_,_,_,_,_,_,_,_,rfl,?_⟩
  rw[ew]
  have hl:(RC more i).length=i:=by unfold RC;rw[List.length_map,List.length_range]
  refine h5.app (by rw[List.length_map,hl]) (by simp;omega) (by simp;omega) λf3 u6 h6=>ar _ _ ⟨?_,h6⟩
  rw[Ji,List.map_append,List.map_singleton,aaz hi]
 rintro⟨f1,_⟩ u5 next ⟨rfl,h5⟩
 dsimp only at h5 |-
 have hl:(RC more more.length).length=more.length:=by unfold RC;rw[List.length_map,List.length_range]
 have htg:=Sj more more.length
 refine ab.f (by simp) ?_
 obtain⟨f,h6⟩:=aW.open_ h5.drop
 refine⟨_,_,_,_,_,_,_,_,_,_,h6.rd 0 rfl (by simp),λb16 abm=>?_⟩
 refine(h6.new 47 [pI 0,pI 0,.list 3 .nil [],.list 12 .nil [],.list 1 .nil [],.list 1 .nil []] abm).st 0 rfl (by simp) λu6 h7=>?_
 have h8:Ow (aW b16 y::aW r y::bR m x' fw fW 20::bR n x fw fW 20::[]) u6:=(aW.shut (x:=y) (f:=f) h7).tail λ_ h=>aW.shut (x:=y) (f:=f) h
 refine kj (by omega) f1 .nil (RC more more.length) [] (by omega) (by simp) (by omega) (λe he=>by have:=htg e he;omega) (Ow.ord [3] h8) λe RY u7 hc h9=>⟨_,rfl,?_⟩
 refine Rm hb.ok f1 .nil (RC more more.length) [] (by omega) (by simp) (by omega) (Ow.ord [2] h9) λe' l y2 u8 rI ok2 B2 M2 ps2 l2 qk=>⟨_,rfl,?_⟩
 rw[hb.B,hb.M,hb.ps]at rI
 obtain⟨rfl,aiJ⟩:=hc.same hb.es rI
 have rU:yZ x RY fW y2:=⟨ok2,B2.trans hb.B,M2.trans hb.M,ps2.trans hb.ps,hc.up hb.up,aiJ.trans l2⟩
 have hbm:=hb.of Kv hM'
 have heq:∀e:Int,((e == e):Bool)=true:=λe=>by simp
 refine⟨λs u=>s.1=s.2/\∃psC y3,yZ x' fw psC y3/\Ow (aW b16 y3::bR m x' fw psC 21::aW r y2::bR n x RY fW 20::[]) u,?_,?_⟩
 ·have main:∀{F:Kq},(∀g u',(∀{F2:Kq},(∀u2 psC y3,yZ x' fw psC y3->Ow (aW b16 y3::bR m x' fw psC 21::aW r y2::bR n x RY fW 20::[]) u2->F2 (pI g) u2)->aa prog 42 [pP b16 0,.agg [pS p.name,.list 7 .sh (p.conds.map ae.pv),.list 19 .sh (p.bp.map dh.pv)]] u' F2)->F (pI g) u')->aa prog 41 [pP m 0,.agg [pS p.name,.list 7 .sh (p.conds.map ae.pv),.list 19 .sh (p.bp.map dh.pv)]] u8 F:=λ{F} hF=>by
   refine GM (by omega) .sh .sh p q1 (by omega) (by omega) (Ow.ord [3] qk) λg psC u9 ha A_=>hF g u9 λ{F2} DD=>?_
   refine acy hbm.ok (by omega) .sh .sh p q1 (by omega) (by omega) (Ow.ord [3] A_) λg' qJ y3 u10 ha' ok3 B3 M3 es3 ps3 mw=>?_
   have ha2:mj x'.T x'.M fw fW p g' qJ:=by
    have:=ha'.perm hbm.es
    rw[hbm.B,hbm.M,hbm.ps]at this;exact this
   obtain⟨rfl,rfl⟩:=ha.uniq ha2
   exact DD u10 psC y3 ⟨ok3,B3.trans hbm.B,M3.trans hbm.M,ps3,hbm.up,by rw[es3];exact hbm.es⟩ mw
  have cp:=wz .sh .sh p ⟨q1,by omega,by omega⟩
  exact⟨⟨main λg u9 zH=>⟨_,rfl,cp.call ⟨_,_,_,_,_,rfl,zH λu10 psC y3 DB mw=>⟨_,rfl,rfl,psC,y3,DB,mw⟩,trivial⟩,trivial⟩,trivial⟩,main λg u9 zH=>⟨_,rfl,cp.call ⟨_,_,_,_,_,rfl,zH λu10 psC y3 DB mw=>⟨_,rfl,rfl,psC,y3,DB,mw⟩,trivial⟩,trivial⟩,trivial⟩
 ·rintro⟨g,g'⟩ u9 ⟨hgg,psC,y3,DB,mw⟩
  have hgg:g=g':=hgg
  subst hgg
  refine ab.t (heq _) (ab.t (heq _) ?_)
  refine aav (by omega) rU (Ow.ord [3,2] mw) λu10 Bx=>⟨_,rfl,ab.t rfl ?_⟩
  refine aav (by omega) DB (Ow.ord [3,2] Bx) λu11 h14=>⟨_,rfl,ab.t rfl ?_⟩
  exact ab.t (decide_eq_true abt) (dS _)
set_option maxRecDepth 100000
section
variable {w:World}
theorem jq:prog.cellsOf 78=12:=by kernel_rfl
theorem ph(n:Nat)(cs:List Value)(h:Reads prog w n 78 cs):∃s:af,bF (gA w) s.pv cs/\True:=by
 obtain⟨m,rfl,hl,hf⟩:=h.struct underlying78
 rw[jq]at hl
 obtain⟨a,e0,_⟩:=kN _ _ (dR hf 0 0 jS rfl rfl rfl)
 obtain⟨b,e1,_⟩:=kN _ _ (dR hf 1 3 jS rfl rfl rfl)
 obtain⟨c,e2,_⟩:=kN _ _ (dR hf 2 6 jS rfl rfl rfl)
 obtain⟨i3,e3⟩:=(dR hf 3 9 lV rfl rfl rfl).pbool underlying4
 obtain⟨i4,e4⟩:=(dR hf 4 10 lV rfl rfl rfl).pbool underlying4
 obtain⟨i5,e5,_⟩:=(dR hf 5 11 sk rfl rfl rfl).CQ underlying3
 match cs,hl with
 |[x0,x1,x2,x3,x4,x5,x6,x7,x8,x9,Y_,x11],_=>exact⟨⟨a,b,c,_,_,_⟩,((((e0.append e1).append e2).append e3).append e4).append e5,trivial⟩
end
open Go.ChangeShapes Go.WideShapes Go.ChangeAt
set_option maxRecDepth 100000 in
theorem ReteClones.lifted(os:Os)(started:os.Started)(H:Type)(enc:TypeId×Value->H):
  ReturnsInHanded {} Tryz.checked os 6 .any (Rows.reteClonesSpec.pre6 enc prog f6 Rows.reteClonesRow.domain false) (Rows.reteClonesSpec.post enc prog f6 false true false false):=by
 refine returnsInHanded_of_change (C:=Tryz.checked) qK started (by kernel_rfl) func6
  (ChangeSpec.witness6 (enc:=enc) (C:=Tryz.checked) false ⟨#[],#[.slice none 0 0,.slice none 0 0,.slice none 0 0,.agg #[.string ByteArray.empty,.slice none 0 0,.slice none 0 0]],[]⟩ 12 (by kernel_rfl) (by kernel_rfl) (by kernel_rfl) (by kernel_rfl)) ?_
 intro W base args ds gs before jH hW QG _
 have gU:∀(j:Nat) t v,f6.params[j]?=some t->args[j]?=some v->Value.okWide prog W .any base t v:=jH
 have QI:=hW
 obtain⟨p,q,Gv,hV,rfl,ZM,Bv⟩:=hW
 have hA:DataW.TrodAll enc prog W 0 (λ_=>true) true f6.params.toList args.toList ds p:=Gv
 rw[params6]at hA gU
 obtain⟨v0,vs0,d0,ds0,p0,q0,AW,rfl,rfl,h0,r0⟩:=trodAll_cons hA
 obtain⟨v1,WA,d1,ds1,p1,q1,rfl,rfl,rfl,h1,r1⟩:=trodAll_cons r0
 obtain⟨v2,vs2,d2,ds2,p2,q2,rfl,rfl,rfl,h2,r2⟩:=trodAll_cons r1
 obtain⟨v3,vs3,d3,ds3,p3,q3,rfl,rfl,rfl,h3,r3⟩:=trodAll_cons r2
 obtain⟨rfl,rfl,rfl⟩:=trodAll_nil r3
 obtain rfl:args= #[v0,v1,v2,v3]:=by cases args;simp_all
 obtain⟨rfl,rfl⟩:=trodVars_none hV
 have Qq:∀x∈p0,x.block<W.heap.size:=by obtain⟨m,hm⟩:=h0;exact DataW.trod_lt m _ _ _ hm
 obtain⟨a0,e0,w0⟩:=iY underlying43 Cm (by omega) vv (gU 0 43 v0 rfl rfl) h0
 have Qp:∀x∈p1,x.block<W.heap.size:=by obtain⟨m,hm⟩:=h1;exact DataW.trod_lt m _ _ _ hm
 obtain⟨a1,e1,w1⟩:=iY underlying29 jq (by omega) ph (gU 1 29 v1 rfl rfl) h1
 have Tm:∀x∈p2,x.block<W.heap.size:=by obtain⟨m,hm⟩:=h2;exact DataW.trod_lt m _ _ _ hm
 obtain⟨a2,e2,w2⟩:=iY underlying29 jq (by omega) ph (gU 2 29 v2 rfl rfl) h2
 have lt3:∀x∈p3,x.block<W.heap.size:=by obtain⟨m,hm⟩:=h3;exact DataW.trod_lt m _ _ _ hm
 obtain⟨a3,e3,w3⟩:=qL underlying25 vv (gU 3 25 v3 rfl rfl) h3
 clear Gv jH
 refine(ao.calls (vs:=[v0,v1,v2,v3]) (abb a0 w0 a1 w1 a2 w2 a3) (bf.cons rfl e0 (bf.cons rfl e1 (bf.cons rfl e2 (bf.cons rfl e3 (bf.nil _)))))).mono λe W' ⟨⟨v,x,Z,he,hr,hx⟩,tj⟩=>?_
 subst hx;subst he;rw[hr.ofRaw.1]
 exact⟨_,rfl,_,_,_,[],_,[],QI,trodAll_mk1 (shut_bool underlying4 _),(trodAll_cons_mk (Below.trod dj (by kernel_rfl) (of_decide_eq_true (by kernel_rfl)) h0 tj Qq) (trodAll_cons_mk (Below.trod dj (by kernel_rfl) (of_decide_eq_true (by kernel_rfl)) h1 tj Qp) (trodAll_cons_mk (Below.trod dj (by kernel_rfl) (of_decide_eq_true (by kernel_rfl)) h2 tj Tm) (trodAll_cons_mk (Below.trod dj (by kernel_rfl) (of_decide_eq_true (by kernel_rfl)) h3 tj lt3) trodAll_mk0)))),rfl,tj.frame _,λh=>by cases h⟩
theorem and2{a b:Bool}(h:a=true)(k:b=true):(a&&b)=true:=by rw[h,k];rfl
set_option maxHeartbeats 0 in
theorem ReteClones.closed:joinedFacts Tryz.checked.prog 6 f6 Rows.reteClonesSpec Rows.reteClonesRow=true:=by
 unfold joinedFacts
 repeat' with_reducible apply and2
 all_goals (as_aux_lemma=>kernel_rfl)
theorem ReteClones.proved:Rows.ReteClonesSaid:=
 OpenClaim.holds_of_wide 6 f6 rfl rfl rfl rfl rfl rfl rfl ⟨rfl,rfl,rfl,rfl,rfl⟩ rfl rfl rfl rfl rfl (by kernel_rfl) func6 ReteClones.closed
  (of_decide_eq_true (by kernel_rfl)) (by unfold Func.isWrapper;first|(rw[if_pos (by decide +kernel)];kernel_rfl)|(rw[if_neg (by decide +kernel)];exact⟨rfl,rfl⟩))
  (λos started H enc _=>ReteClones.lifted os started H enc)
end Go.Proofs.YtbodiiomcfgokaaGreat
