/- What is proved: the statement ReteNot, as it is given, for every input that it speaks of. Conditions: none. -/
import Derived.Test.YtbodiiomcfgokaaGreatB14
import Derived.Test.YtbodiiomcfgokaaGreatChecked
import Derived.KernelRfl
import Derived.ChangeArms
import Derived.WideShapes
import Derived.DataReads
import Derived.WalkKit
import Derived.ProofKit
import Derived.OpenShut
import Derived.ShutString
import Derived.ChangeOld
import Derived.Below
set_option linter.all false
namespace Go.Proofs.YtbodiiomcfgokaaGreat
open Go.Proofs.Tryz Go.aK
variable {u0:Mem} {K:Kq}
set_option maxRecDepth 100000
theorem sb.c{t d:ByteArray}{d3 d4 d5 d6 d7 y:Fl}{u v e f i x:Lq}{w:Int}{b g:Bool}(h: bZ (α:=Bool) (λm=> aa prog 15 [.agg [pS t,.list 7 .sh u,.list 19 .sh v]] u0 λg0 H=> ∃b8,g0=(pB b8)/\ ab b8 (m true H) (aa prog 16 [.list 12 y x,pI 30] H λg1 M=> ∃b9,g1=(pB b9)/\ ab (!b9) (m true M) (aa prog 17 [.list 7 .nr [[pI w,pB b,pS d,.list 6 .sh e,.list 6 .sh f,pB g,.list 7 .sh i]],pI 3,pI 0] M λh2 P=> ∃c0,h2=(pI c0)/\ ab (decide (c0>1)) (m true P) (aa prog 18 [.list 7 .nr [[pI w,pB b,pS d,.list 6 .sh e,.list 6 .sh f,pB g,.list 7 .sh i]]] P λh4 f5=> ∃c1,h4=(pB c1)/\ m c1 f5)))) (λe5 G=> ab e5 (aa prog 19 [] G λh5 f6=> ∃c2,h5=(pB c2)/\ K (pB c2) f6) (aa prog 20 [.agg [pS t,.list 7 .sh u,.list 19 .sh v]] G λh6 f7=> ∃i7 i8 o i9 p,h6=(.agg [pS i7,.list 7 i8 o,.list 19 i9 p])/\ aa prog 20 [.agg [pS ⟨#[97]⟩,.list 7 .sh o,.list 19 .sh p]] f7 λh7 f8=> ∃j0 c3 q j1 A,h7=(.agg [pS j0,.list 7 c3 q,.list 19 j1 A])/\ aV false 7 112 c3 q [[pI 2,pB b,pS d,.list 6 .sh e,.list 6 .sh f,pB g,.list 7 .sh i]] f8 λj6 f9=> aa prog 21 [.agg [pS ⟨#[97]⟩,.list 7 .sh o,.list 19 .sh p]] f9 λh8 Q=> ∃j2 c4,h8=(.aD [pI j2,pI c4])/\ ab (c4 != 0) (aa prog 19 [] Q λh9 e6=> ∃c5,h9=(pB c5)/\ K (pB c5) e6) (aa prog 21 [.agg [pS ⟨#[98]⟩,.list 7 .sh (q++[[pI 2,pB b,pS d,.list 6 .sh e,.list 6 .sh f,pB g,.list 7 .sh i]]),.list 19 .sh A]] Q λi0 I=> ∃j3 c6,i0=(.aD [pI j3,pI c6])/\ ab (c6 != 0) (aa prog 19 [] I λg2 e7=> ∃c7,g2=(pB c7)/\ K (pB c7) e7) (aa prog 22 [.list 3 .nr [[pS ⟨#[97]⟩,.list 7 .sh o,.list 19 .sh p],[pS ⟨#[98]⟩,.list 7 .sh (q++[[pI 2,pB b,pS d,.list 6 .sh e,.list 6 .sh f,pB g,.list 7 .sh i]]),.list 19 .sh A]],.list 12 y x] I λg3 n=> ∃l r,g3=(.aD [pA l,pA r])/\ ab (Option.isNone l) (K (pB false) n) (nP r λd8 e2=> ∃j4 c8,aB n d8 (e2+2) 1=some [.list 3 j4 c8]/\ ab (((List.length c8:Nat):Int) != 2) (aa prog 19 [] n λg4 e8=> ∃c9,g4=(pB c9)/\ K (pB c9) e8) (aa prog 24 [pA l,pS ⟨#[97]⟩] n λg5 e9=> ∃d0 d1 d2,g5=(.fn d0 d1 d2)/\ aa prog 23 [.fn d0 d1 d2] e9 λg6 f0=> ∃j5 s,g6=(.list 2 j5 s)/\ ak (α:=(Fl×Lq)×Int) (λB a J=> ab (decide (a.2<((List.length s:Nat):Int))) (0<=a.2/\∃(D:List PV),(s)[Int.toNat a.2]?=some D/\ ∃R i1 S,ay D 0 2=some [pS R,.list 1 i1 S]/\ aa prog 44 [pA l,.agg [pS R,.list 1 .sh S]] J λg7 L=> ∃U T V,g7=(.aD [.list 4 U T,pB V])/\ ab (!V) (K (pB false) L) (ak (α:=Bool×Int) (λC j k=> nP r λd9 e3=> ∃i2 W,aB k d9 (e3+3) 1=some [.list 12 i2 W]/\ ab (decide (j.2<((List.length W:Nat):Int))) (nP r λe0 e4=> ∃i3 X,aB k e0 (e4+3) 1=some [.list 12 i3 X]/\ 0<=j.2/\∃(E:List PV),(X)[Int.toNat j.2]?=some E/\ ∃Y Z a0 a1 a2 a3 a4 a5 a6 a7 a8 a9,ay E 0 12=some [pI Y,pS Z,pI a0,pI a1,pS a2,pI a3,pI a4,pS a5,pI a6,pB a7,pB a8,pI a9]/\ aa prog 51 [.agg [pI 2,pB b,pS d,.list 6 .sh e,.list 6 .sh f,pB g,.list 7 .sh i],.agg [pI Y,pS Z,pI a0,pI a1,pS a2,pI a3,pI a4,pS a5,pI a6,pB a7,pB a8,pI a9],.list 4 U T] k λg8 N=> ∃i5 i4 b0,g8=(.aD [.list 4 i5 i4,pB b0])/\ ab j.1 (C ((!b0),(IntKind.wrap .i64 (j.2+1))) N) (C (false,(IntKind.wrap .i64 (j.2+1))) N)) (ab j.1 (0<=a.2/\∃(F:List PV),(s)[Int.toNat a.2]?=some F/\ ∃i6 z,ay F 1 1=some [.list 1 i6 z]/\ aV false 2 40 a.1.1 a.1.2 [[pS ⟨#[98]⟩,.list 1 .sh z]] k λe1 f1=> B ((e1,(a.1.2++[[pS ⟨#[98]⟩,.list 1 .sh z]])),(IntKind.wrap .i64 (a.2+1))) f1) (B ((a.1.1,a.1.2),(IntKind.wrap .i64 (a.2+1))) k))) (true,0) L)) (aa prog 24 [pA l,pS ⟨#[98]⟩] J λg9 f2=> ∃b1 b2 b3,g9=(.fn b1 b2 b3)/\ aa prog 23 [.fn b1 b2 b3] f2 λh0 f3=> ∃b5 b4,h0=(.list 2 b5 b4)/\ aa prog 29 [.list 2 b5 b4,.list 2 a.1.1 a.1.2] f3 λh1 O=> ∃b6,h1=(pB b6)/\ ab b6 (aa prog 19 [] O λh3 f4=> ∃b7,h3=(pB b7)/\ K (pB b7) f4) (K (pB false) O))) ((.nil,[]),0) f0))))))):aa prog 9 [.agg [pS t,.list 7 d3 u,.list 19 d4 v],.agg [pI w,pB b,pS d,.list 6 d5 e,.list 6 d6 f,pB g,.list 7 d7 i],.list 12 y x] u0 K:= VC [3,4,7] [(23,⟨[(14,.one (.list 2)),(16,.one (.raw (.int .i64)))],[]⟩),(30,⟨[(19,.one (.raw .bool)),(20,.one (.raw (.int .i64)))],[]⟩)] [(2,⟨[(40,.one (.raw .bool))],[]⟩)] [] [] [] [] func9 h
theorem cD.c{b:Fl}{a:Lq}{d:Int}(h: aa prog 69 [.list 12 b a,pI d] u0 λg f=> ∃e,g=(pB e)/\ K (pB e) f):aa prog 16 [.list 12 b a,pI d] u0 K:= VC [] [] [] [] [] [] [] func16 h
theorem pw.c{a:Option Addr}{b:ByteArray}(h: K (.fn (.func 74) [] [.bn [pA a] 0,.bn [pS b] 0]) u0):aa prog 24 [pA a,pS b] u0 K:= VC [] [] [] [] [2,3] [] [] func24 h
theorem eJ.c{s t:Fl}{b d:Lq}(h: ab (((List.length b:Nat):Int) != ((List.length d:Nat):Int)) (K (pB false) u0) (ak (α:=Int) (λu a e=> ab (decide (a<((List.length b:Nat):Int))) (0<=a/\∃(f:List PV),(b)[Int.toNat a]?=some f/\ ∃l,ay f 0 1=some [pS l]/\ 0<=a/\∃(g:List PV),(d)[Int.toNat a]?=some g/\ ∃m,ay g 0 1=some [pS m]/\ ab (!aJ l m) (K (pB false) e) (0<=a/\∃(i:List PV),(b)[Int.toNat a]?=some i/\ ∃o n,ay i 1 1=some [.list 1 o n]/\ 0<=a/\∃(j:List PV),(d)[Int.toNat a]?=some j/\ ∃q p,ay j 1 1=some [.list 1 q p]/\ aa prog 77 [.list 1 o n,.list 1 q p] e λv k=> ∃r,v=(pB r)/\ ab (!r) (K (pB false) k) (u (IntKind.wrap .i64 (a+1)) k))) (K (pB true) e)) (0) u0)):aa prog 29 [.list 2 s b,.list 2 t d] u0 K:= VC [] [(4,⟨[(5,.one (.raw (.int .i64)))],[]⟩)] [] [] [] [] [] func29 h
theorem Aq.c{l:Option Addr}{d:ByteArray}{n:Fl}{m:Lq}(h: bZ (α:=Option Addr×Bool) (λk=> nP l λQ W=> ∃f,aB u0 Q (W+6) 1=some [pA f]/\ (aa prog 75 [pA f,pS d] u0 λa7 a0=> ∃u z w D A H E I,a7=(.aD [.agg [pS u,.list 7 z w,.list 19 D A,.list 1 H E],pB I])/\ bJ a0 129 [pS ⟨#[]⟩,.list 7 .nil [],.list 19 .nil [],.list 1 .nil []] λo a1=> stM o 0 [pS u,.list 7 z w,.list 19 D A,.list 1 H E] a1 λa2=> k ((some ⟨o,0,none⟩),I) a2)/\ (bJ u0 129 [pS ⟨#[]⟩,.list 7 .nil [],.list 19 .nil [],.list 1 .nil []] λp a3=> aa prog 75 [pA f,pS d] a3 λa8 a4=> ∃v y x C B G F J,a8=(.aD [.agg [pS v,.list 7 y x,.list 19 C B,.list 1 G F],pB J])/\ stM p 0 [pS v,.list 7 y x,.list 19 C B,.list 1 G F] a4 λa5=> k ((some ⟨p,0,none⟩),J) a5)) (λe a=> ab (!e.2) (K (.aD [.list 4 .nil [],pB false]) a) (aF (pA e.1) λR X=> ∃b0 L,aB a R (X+3) 1=some [.list 1 b0 L]/\ aF (pA e.1) λS Y=> ∃b1 g,aB a S (Y+3) 1=some [.list 1 b1 g]/\ 0<=(IntKind.wrap .i64 (((List.length g:Nat):Int)-1))/\∃(q:List PV),(L)[Int.toNat (IntKind.wrap .i64 (((List.length g:Nat):Int)-1))]?=some q/\ ∃M,ay q 0 1=some [pA M]/\ nP M λT Z=> ∃b2 i,aB a T (Z+9) 1=some [.list 2 b2 i]/\ ak (α:=Int) (λV b s=> ab (decide (b<((List.length i:Nat):Int))) (0<=b/\∃(r:List PV),(i)[Int.toNat b]?=some r/\ ∃O N b3 j,ay r 0 2=some [.list 1 O N,.list 4 b3 j]/\ aa prog 111 [.list 1 O N,.list 1 n m] s λa9 t=> ∃P,a9=(pI P)/\ ab (P == 0) (aV false 4 48 .nil [] j t λU a6=> K (.aD [.list 4 U ([]++j),pB true]) a6) (V (IntKind.wrap .i64 (b+1)) t)) (K (.aD [.list 4 .nil [],pB false]) s)) (0) a))):aa prog 44 [pA l,.agg [pS d,.list 1 n m]] u0 K:= VC [3,9] [(5,⟨[(34,.one (.raw (.int .i64)))],[]⟩)] [(2,⟨[(6,.one (.raw .ptr)),(7,.one (.raw .bool))],[]⟩)] [] [] [] [] func44 h
theorem cB.c{m:Fl}{b:Lq}{e:Int}(h: ab (decide (((List.length b:Nat):Int)>e)) (K (pB false) u0) (ak (α:=Int) (λn a d=> ab (decide (a<((List.length b:Nat):Int))) (0<=a/\∃(f:List PV),(b)[Int.toNat a]?=some f/\ ∃j,ay f 1 1=some [pS j]/\ ab (decide ((((ByteArray.size j:Nat):Int):Int)>100)) (K (pB false) d) (0<=a/\∃(g:List PV),(b)[Int.toNat a]?=some g/\ ∃k,ay g 4 1=some [pS k]/\ ab (decide ((((ByteArray.size k:Nat):Int):Int)>100)) (K (pB false) d) (0<=a/\∃(i:List PV),(b)[Int.toNat a]?=some i/\ ∃l,ay i 7 1=some [pS l]/\ ab (decide ((((ByteArray.size l:Nat):Int):Int)>100)) (K (pB false) d) (n (IntKind.wrap .i64 (a+1)) d)))) (K (pB true) d)) (0) u0)):aa prog 69 [.list 12 m b,pI e] u0 K:= VC [] [(4,⟨[(5,.one (.raw (.int .i64)))],[]⟩)] [] [] [] [] [] func69 h
theorem ma.c{j:Fn}{k l o b:List PV}(h: bZ (α:=Option Addr×Bool) (λi=> ∃S,ay o 0 1=some [pA S]/\ nP S λT W=> ∃e,aB u0 T (W+6) 1=some [pA e]/\ ∃f,ay b 0 1=some [pS f]/\ (aa prog 75 [pA e,pS f] u0 λa5 Y=> ∃t y v C z G D H,a5=(.aD [.agg [pS t,.list 7 y v,.list 19 C z,.list 1 G D],pB H])/\ bJ Y 129 [pS ⟨#[]⟩,.list 7 .nil [],.list 19 .nil [],.list 1 .nil []] λm Z=> stM m 0 [pS t,.list 7 y v,.list 19 C z,.list 1 G D] Z λa0=> i ((some ⟨m,0,none⟩),H) a0)/\ (bJ u0 129 [pS ⟨#[]⟩,.list 7 .nil [],.list 19 .nil [],.list 1 .nil []] λn a1=> aa prog 75 [pA e,pS f] a1 λa6 a2=> ∃u x w B A F E I,a6=(.aD [.agg [pS u,.list 7 x w,.list 19 B A,.list 1 F E],pB I])/\ stM n 0 [pS u,.list 7 x w,.list 19 B A,.list 1 F E] a2 λa3=> i ((some ⟨n,0,none⟩),I) a3)) (λq d=> ab (!q.2) (K (.aD []) d) (∃J,ay b 0 1=some [pS J]/\ aF (pA q.1) λU X=> ∃L a9 M b0 N b1 O,aB d U X 4=some [pS L,.list 7 a9 M,.list 19 b0 N,.list 1 b1 O]/\ aa prog 76 [pS J,.agg [pS L,.list 7 .sh M,.list 19 .sh N,.list 1 .sh O]] d λa7 a4=> ∃b2 g,a7=(.list 2 b2 g)/\ ak (α:=Int) (λV a r=> ab (decide (a<((List.length g:Nat):Int))) (0<=a/\∃(p:List PV),(g)[Int.toNat a]?=some p/\ ∃P b3 Q,ay p 0 2=some [pS P,.list 1 b3 Q]/\ bY prog (.fn j k l) [.agg [pS P,.list 1 .sh Q]] r λa8 s=> ∃R,a8=(pB R)/\ ab (!R) (K (.aD []) s) (V (IntKind.wrap .i64 (a+1)) s)) (K (.aD []) r)) (0) a4))):aa prog 74 [.fn j k l,.bn o 0,.bn b 0] u0 K:= VC [7] [(3,⟨[(23,.one (.raw (.int .i64)))],[]⟩)] [(1,⟨[(4,.one (.raw .ptr)),(5,.one (.raw .bool))],[]⟩)] [] [] [] [] func74 h
theorem dK.c{k l:Fl}{b d:Lq}(h: ab (((List.length b:Nat):Int) != ((List.length d:Nat):Int)) (K (pB false) u0) (ak (α:=Int) (λm a e=> ab (decide (a<((List.length b:Nat):Int))) (0<=a/\∃(f:List PV),(b)[Int.toNat a]?=some f/\ ∃i,ay f 0 1=some [pI i]/\ 0<=a/\∃(g:List PV),(d)[Int.toNat a]?=some g/\ ∃j,ay g 0 1=some [pI j]/\ ab (i != j) (K (pB false) e) (m (IntKind.wrap .i64 (a+1)) e)) (K (pB true) e)) (0) u0)):aa prog 77 [.list 1 k b,.list 1 l d] u0 K:= VC [] [(4,⟨[(5,.one (.raw (.int .i64)))],[]⟩)] [] [] [] [] [] func77 h
end Go.Proofs.YtbodiiomcfgokaaGreat
namespace Go.aK
open Go.RowKit
section
variable {P:Program} {w:World} {n:Nat} {t:TypeId} {cs:List Value}
section
variable {H:Type} {enc:TypeId×Value->H} {r:Reach} {base:Nat} {v:Value} {d:DataW H} {p:List MemPlace}
theorem qL{T:Type}{pv:T->List PV}{Q:T->Prop}{fs:Array Field}(ht:P.underlying t=some (.struct fs))(he:∀m cs,Reads P w m t cs->∃s,bF (gA w) (pv s) cs/\Q s)(hv:Value.okWide P w r base t v)(h:DataW.Trod enc P w 0 (λ_=>true) true t v d p):
  ∃s,cy (gA w) (.agg (pv s)) v/\Q s:=by
 simp only[Value.okWide,ht]at hv
 obtain⟨cs,rfl,_,_⟩:=hv
 obtain⟨n,hn⟩:=Reads.of h
 obtain⟨s,e,hq⟩:=he n _ hn
 exact⟨s,e.pT,hq⟩
end
end
end Go.aK
namespace Go.Proofs.YtbodiiomcfgokaaGreat
open Go.Proofs.Tryz Go.aK Go.RowKit
theorem rh(f:Fl)(l:List af)(n:Nat)(OK:n<=1000000):ao prog 69 [.list 12 f (l.map af.pv),pI (n:Nat)] λp=>∃q:Bool,p=pB q/\(q=true->l.length<=n):=by
 refine ao.of (cB.c (ab.mk (λh=>⟨false,rfl,λh=>by cases h⟩) (λh=>?_)))
 have hn:l.length<=n:=by simpa using h
 refine ak.each (n:=l.length) (by omega) (λ_ _=>True) trivial (λk u next hk _ ar=>?_) (λu next _=>ab.f (by simp) ⟨true,rfl,λ_=>hn⟩)
 refine ab.t (by simpa using hk) ⟨by omega,_,aw hk,_,rfl,ab.mk (λ_=>⟨false,rfl,λh=>by cases h⟩) (λ_=>⟨by omega,_,aw hk,_,rfl,ab.mk (λ_=>⟨false,rfl,λh=>by cases h⟩) (λ_=>⟨by omega,_,aw hk,_,rfl,ab.mk (λ_=>⟨false,rfl,λh=>by cases h⟩) (λ_=>ar _ trivial)⟩)⟩)⟩
theorem lE(f:Fl)(l:List af)(n:Nat)(OK:n<=1000000):ao prog 16 [.list 12 f (l.map af.pv),pI (n:Nat)] λp=>∃q:Bool,p=pB q/\(q=true->l.length<=n):=by
 refine ao.of (cD.c ?_)
 exact(rh f l n OK).call λp ⟨q,e,h⟩=>⟨q,e,q,rfl,h⟩
open K6
theorem mF{ts:List cf}(h:ts.Pairwise λa b=>a.tags≠b.tags)(f:cf->Bool):cR (ts.filter f)=(cR ts).filter f:=by
 obtain⟨h1,h2⟩:=fQ h
 refine(CA (h.filter f) (h1.filter f) λy=>?_).symm
 rw[List.mem_filter,List.mem_filter,h2]
theorem zf{es:List af}{c:ae}(hk:c.kind=2)(ts:List cf):stepT es c ts=ts.filter λt=>(aN c t.binds es).isEmpty:=by
 unfold stepT
 rw[if_neg (by omega)]
 congr 1;funext t
 rw[iQ,if_neg (by omega),if_pos hk]
 cases(aN c t.binds es).isEmpty<;>rfl
theorem Da{es:List af}(hu:xu es){p q:Prod}{c:ae}(hk:c.kind=2)(hq:q.conds=p.conds++[c]):eB es q=((cR (au es p.conds)).filter λt=>(aN c t.binds es).isEmpty).map λt=>⟨q.name,t.tags⟩:=by
 unfold eB
 rw[hq,cV,zf hk,mF (dv hu _)]
theorem zb{T:Type}{ck:T->T->Int}(hc:oF ck){U:Type}{key:U->T}{l:List U}(h:ca ck key l){a b:U}(ha:a∈l)(hb:b∈l)(e:key a=key b):a=b:=by
 have h1:=(aM hc h (k:=key a) (x:=a)).2 ⟨ha,rfl⟩
 have h2:=(aM hc h (k:=key a) (x:=b)).2 ⟨hb,e.symm⟩
 rw[h1]at h2;exact Option.some.inj h2
section
variable {r:Nat} {x:tq}
theorem jf.adV(h:jf x){p:Prod}(hp:p∈x.ps):(qA x.es p).length<=1024:=by
 have h1:=Jg h.b.1 (h.le p hp)
 have h2:=h.b.2
 rw[xB h.ne];omega
end
theorem vz(f g:Fl)(l m:List Int)(hl:l.length<=1000000000):aZ 77 [.list 1 f (l.map gz),.list 1 g (m.map gz)] (l=m):=by
 refine ao.of (dK.c (ab.mk (λh=>aZ.no (i_ h)) (λh=>?_)))
 refine fE (l:=l) (m:=m) (n:=l.length) rfl (ix h) (by omega) (λk hk bW u next hy cm=>?_) (λu next e=>ab.f (by simp) (aZ.yes e))
 exact ab.t (by simpa using hk) ⟨by omega,_,aw hk,_,rfl,by omega,_,aw bW,_,rfl,ab.mk (λh=>aZ.no (cm λe=>by rw[e]at h;simp at h)) (λh=>hy (by simpa using h) _)⟩
theorem JS{a b:Mt}(h1:a.name=b.name)(h2:a.tags=b.tags):a=b:=by cases a;cases b;simp_all
theorem sw(f g:Fl)(l m:List Mt)(hl:l.length<=1000000000)(ht:∀x∈l,x.tags.length<=1000000000):aZ 29 [.list 2 f (l.map Mt.pv),.list 2 g (m.map Mt.pv)] (l=m):=by
 refine ao.of (eJ.c (ab.mk (λh=>aZ.no (i_ h)) (λh=>?_)))
 refine fE (l:=l) (m:=m) (n:=l.length) rfl (ix h) (by omega) (λk hk bW u next hy cm=>?_) (λu next e=>ab.f (by simp) (aZ.yes e))
 refine ab.t (by simpa using hk) ⟨by omega,_,aw hk,_,rfl,by omega,_,aw bW,_,rfl,ab.mk (λh=>aZ.no (cm λe=>?_)) (λh=>⟨by omega,_,aw hk,_,_,rfl,by omega,_,aw bW,_,_,rfl,?_⟩)⟩
 ·rw[e,dX]at h;cases h
 ·have hn:l[k].name=m[k].name:=bI.1 (nt h)
  exact(vz .sh .sh _ _ (ht _ (List.getElem_mem hk))).call (λe=>⟨_,rfl,ab.f rfl (hy (JS hn e) _)⟩) (λaT=>⟨_,rfl,ab.t rfl (aZ.no (cm λe=>aT (by rw[e])))⟩)
set_option maxRecDepth 100000
section
variable {w:World}
theorem jq:prog.cellsOf 78=12:=by kernel_rfl
theorem ph(n:Nat)(cs:List Value)(h:Reads prog w n 78 cs):∃s:af,bF (gA w) s.pv cs/\True:=by
 obtain⟨m,rfl,hl,hf⟩:=h.struct underlying78
 rw[jq]at hl
 obtain⟨a,e0,_⟩:=kN _ _ (dR hf 0 0 jS rfl rfl rfl)
 obtain⟨b,e1,_⟩:=kN _ _ (dR hf 1 3 jS rfl rfl rfl)
 obtain⟨c,e2,_⟩:=kN _ _ (dR hf 2 6 jS rfl rfl rfl)
 obtain⟨i3,e3⟩:=(dR hf 3 9 lV rfl rfl rfl).pbool underlying4
 obtain⟨i4,e4⟩:=(dR hf 4 10 lV rfl rfl rfl).pbool underlying4
 obtain⟨i5,e5,_⟩:=(dR hf 5 11 sk rfl rfl rfl).CQ underlying3
 match cs,hl with
 |[x0,x1,x2,x3,x4,x5,x6,x7,x8,x9,Y_,x11],_=>exact⟨⟨a,b,c,_,_,_⟩,((((e0.append e1).append e2).append e3).append e4).append e5,trivial⟩
end
theorem bR.facts{n:Nat}{x:NC}{es:List af}{ps:List Prod}{w:Nat}{L:List aY}{μ:Mem}(h:Ow (bR n x es ps w::L) μ):((bK es ps:Nat):Int)<=x.M/\x.M<=1024/\ca aA aH es/\ca aI cM ps/\(∀q∈ps,l_ q)/\ps.length<=w:=by
 obtain⟨_,_,_,_,_,_,_,⟨hR,hs⟩,_⟩:=bR.open_ h
 exact⟨hs,hR.mb.2,hR.core.use.inv.ua,hR.si,hR.rE,hR.xt⟩
theorem iq{es:List af}(hn:xu es)(p:Prod):(eB es p).length=(au es p.conds).length:=by unfold eB;rw[List.length_map,gQ (dv hn _)]
theorem la{es:List af}(hn:xu es){p:Prod}(hp:l_ p):∀m∈eB es p,m.tags.length<=1000:=by
 intro m hm
 obtain⟨t,ht,rfl⟩:=List.mem_map.1 hm
 have ht:=((fQ (dv hn p.conds)).2 t).1 ht
 rw[<- gC]at ht
 obtain⟨q,hq,rfl⟩:=List.mem_map.1 ht
 have h1:=jC (es:=es) (l:=p.conds) (ts:=[ub]) (m:=0) (by simp[ub]) q hq
 obtain⟨_,_,_,g4,_⟩:=hp.facts
 have:=ch p.conds
 show q.tags.length<=1000
 omega
theorem vQ{α:Type}(f:α->Nat):∀{l:List α} {a:α},a∈l->f a<=(l.map f).sum
 |x::l,a,h=>by
  rw[List.map_cons,List.sum_cons]
  rcases List.mem_cons.1 h with rfl|h
  ·omega
  ·have:=vQ f h;omega
def ofM(es:List af)(ps:List Prod)(s:ByteArray):List Mt:=match aL aI cM s ps with
 |some q=>eB es q
 |none=>[]
@[reducible] def Mp(n:Nat)(s:ByteArray):PV:=.fn (.func 74) [] [.bn [pP n 0] 0,.bn [pS s] 0]
theorem Rg(n:Nat)(s:ByteArray):Pure prog 24 [pP n 0,pS s] (Mp n s):=ao.of (pw.c rfl)
@[reducible] def UF(f1 f2 f3:Fl)(T:Tree)(q:Prod):List PV:=[pS q.name,.list 7 f1 (q.conds.map ae.pv),.list 19 f2 (q.bp.map dh.pv),.list 1 f3 ((dE T.B q.conds).map λb=>[pP b 0])]
section
variable {n:Nat} {x:NC} {es:List af} {ps:List Prod} {w:Nat}
theorem Ml(hw:w<=1000)(s:ByteArray):Ag prog (Mp n s) ((ofM es ps s).map λm=>[.agg m.pv]) (bR n x es ps w):=by
 refine Ag.mk λfy ya yb J S μ hy hO df=>?_
 show aa _ _ [.fn fy ya yb,.bn [pP n 0] 0,.bn [pS s] 0] _ _
 obtain⟨T,ms,ids,tk,ct,fr,mn,⟨hR,dQ⟩,h1⟩:=bR.open_ hO
 have ow:ps.length<=1000:=Nat.le_trans hR.xt hw
 have shut:∀{u:Mem} {M:List aY},Ow (dc n x es ms ids T tk ct fr mn ps M) u->Ow (bR n x es ps w::M) u:=λh=>bR.shut hR dQ h
 refine ma.c ⟨λz u=>(z.2=true/\∃q b f1 f2 f3,aL aI cM s ps=some q/\z.1=some ⟨b,0,none⟩/\Ow (dc n x es ms ids T tk ct fr mn ps [Pt b 129 (UF f1 f2 f3 T q),J 0]) u)\/(z.2=false/\aL aI cM s ps=none/\Ow (dc n x es ms ids T tk ct fr mn ps [J 0]) u),?_,?_⟩
 ·refine⟨_,rfl,_,aE (an.qz (x:=x) (es:=es) (ms:=ms) (ids:=ids) h1 (by simp)) (by simp),_,rfl,?_,?_⟩
  ·refine RP.gO (Ow.at 2 rfl h1) hR.u (by rw[List.length_map];omega) s (λy u hy h3=>?_) (λu hy h3=>?_)
   ·rw[iL]at hy
    obtain⟨q,hq,rfl⟩:=Option.map_eq_some_iff.1 hy
    refine⟨_,_,_,_,_,_,_,_,rfl,λb4 xv=>?_⟩
    refine(h3.new _ _ xv).st 0 rfl (by simp) λu4 h4=>.inl ⟨rfl,q,b4,_,_,_,hq,rfl,Ow.ord [2,2,1,1,0,0] h4⟩
   ·rw[iL]at hy
    refine⟨_,_,_,_,_,_,_,_,rfl,λb4 xv=>?_⟩
    refine(h3.new _ _ xv).st 0 rfl (by simp) λu4 h4=>.inr ⟨rfl,Option.map_eq_none_iff.1 hy,Ow.ord [1,1,0,0,0] h4.drop⟩
  ·intro b4 xv
   have h2:=Ow.ord [1,1,1,1,0,0] (h1.new 129 [pS ⟨#[]⟩,.list 7 .nil [],.list 19 .nil [],.list 1 .nil []] xv)
   refine RP.gO (Ow.at 2 rfl h2) hR.u (by rw[List.length_map];omega) s (λy u hy h3=>?_) (λu hy h3=>?_)
   ·rw[iL]at hy
    obtain⟨q,hq,rfl⟩:=Option.map_eq_some_iff.1 hy
    refine⟨_,_,_,_,_,_,_,_,rfl,?_⟩
    refine h3.st 4 rfl (by simp) λu4 h4=>.inl ⟨rfl,q,b4,_,_,_,hq,rfl,Ow.ord [1,1,0,0,0,0] h4⟩
   ·rw[iL]at hy
    refine⟨_,_,_,_,_,_,_,_,rfl,?_⟩
    refine h3.st 4 rfl (by simp) λu4 h4=>.inr ⟨rfl,Option.map_eq_none_iff.1 hy,(Ow.ord [1,1,0,0,0,0] h4).tail λ_ h=>h.tail λ_ h=>h.tail λ_ h=>h.tail λ_ h=>h.drop⟩
 ·rintro⟨_,_⟩ u (⟨rfl,q,b,f1,f2,f3,hq,rfl,h2⟩|⟨rfl,cm,h2⟩)
  ·have e:ofM es ps s=eB es q:=by unfold ofM;rw[hq]
   obtain⟨Dv,Qz⟩:=(aM aP hR.si).1 hq
   have Qz:q.name=s:=Qz
   have aO:=hR.rE _ Dv
   have hD:=hR.pD _ Dv
   have zC:=hR.len hD
   refine ab.f rfl ⟨_,rfl,?_⟩
   dsimp only[nP,nn,aF]
   refine⟨_,_,_,_,_,_,_,h2.rd 4 rfl (by simp),?_⟩
   refine cOf s hR.tags aO hD (hR.core.dH.tok _ hD) zC _ _ _ (Ow.ord [1] h2) λf u3 h3=>⟨_,_,rfl,?_⟩
   have aT:=dv (kM hR.core.use.inv.ua) q.conds
   have TZ:((cR (au es q.conds)).map λt=>(⟨s,t.tags⟩:Mt))=ofM es ps s:=by rw[e,<- Qz];rfl
   rw[TZ]
   have ZC:(ofM es ps s).length<=1024:=by rw[e];unfold eB;rw[List.length_map,gQ aT];exact zC
   have h4:Ow (dc n x es ms ids T tk ct fr mn ps [J 0]) u3:=(Ow.ord [1,0,0,0,0,0] h3).tail λ_ h=>h.tail λ_ h=>h.tail λ_ h=>h.tail λ_ h=>h.drop
   refine ak.each (n:=(ofM es ps s).length) (by omega) (λk u=>Ow (dc n x es ms ids T tk ct fr mn ps [J k]) u) h4 ?_ ?_
   ·rintro k u4 next hk h4 ar
    refine ab.t (by simpa using hk) ⟨by omega,_,aw hk,_,_,_,rfl,?_⟩
    have gV:∀ν,J k ν->bY prog (.fn fy ya yb) [.agg (ofM es ps s)[k].pv] ν λv μ'=>(v=pB true/\Ow [J (k+1)] μ')\/(v=pB false/\Ow [S] μ'):=λν hν=>by
     have h:=df k (by rw[List.length_map];exact hk) ν hν
     rw[List.getElem_map]at h
     exact h
    refine Ow.va (Ow.ord [4] h4) gV λv u5 h5=>?_
    rcases h5.qB with⟨rfl,h6⟩|⟨rfl,h6⟩
    ·exact⟨_,rfl,ab.f rfl (ar _ (Ow.ord [1,1,1,1,0] h6))⟩
    ·exact⟨_,rfl,ab.t rfl (.inr (shut (Ow.ord [1,1,1,1,0] h6)))⟩
   ·rintro u4 next h4
    refine ab.f (by simp) (.inl ?_)
    rw[List.length_map]
    exact shut h4
  ·have e:ofM es ps s=[]:=by unfold ofM;rw[cm]
   rw[e]
   exact ab.t rfl (.inl (shut h2))
theorem Rh(hw:w<=1000)(s:ByteArray){L:List aY}{μ:Mem}(hO:Ow (bR n x es ps w::L) μ){F:Kq}(hk:∀f μ',Ow (bR n x es ps w::L) μ'->F (.list 2 f ((ofM es ps s).map Mt.pv)) μ'):aa prog 23 [Mp n s] μ F:=by
 obtain⟨h1,h2,h3,h4,_⟩:=bR.facts hO
 refine zW (l:=ofM es ps s) (Ml hw s) ?_ hO hk
 unfold ofM
 cases hq:aL aI cM s ps with
 |none=>simp
 |some q=>
  show(eB es q).length<=_
  rw[iq (kM h3)]
  have hm:=((aM aP h4).1 hq).1
  have:(au es q.conds).length<=bK es ps:=by
   unfold bK
   exact vQ (λq:Prod=>(au es q.conds).length) hm
  omega
theorem Yw(hw:w<=1000)(s:ByteArray)(tg:List Int)(htg:Ai tg)(f0:Fl){L:List aY}{μ:Mem}(hO:Ow (bR n x es ps w::L) μ){F:Kq}
  (h1:∀q,aL aI cM s ps=some q->∀t∈au es q.conds,t.tags=tg->∀μ' f,Ow (bR n x es ps w::L) μ'->F (.aD [.list 4 f (t.binds.map Bind.pv),pB true]) μ')
  (h0:(∀q,aL aI cM s ps=some q->∀t∈au es q.conds,t.tags≠tg)->∀μ',Ow (bR n x es ps w::L) μ'->F (.aD [.list 4 .nil [],pB false]) μ'):
  aa prog 44 [pP n 0,.agg [pS s,.list 1 f0 (tg.map gz)]] μ F:=by
 obtain⟨T,ms,ids,tk,ct,fr,mn,⟨hR,dQ⟩,h2⟩:=bR.open_ hO
 have ow:ps.length<=1000:=Nat.le_trans hR.xt hw
 have shut:∀{u:Mem} {M:List aY},Ow (dc n x es ms ids T tk ct fr mn ps M) u->Ow (bR n x es ps w::M) u:=λh=>bR.shut hR dQ h
 refine Aq.c ⟨λz u=>(z.2=true/\∃q b f1 f2 f3,aL aI cM s ps=some q/\z.1=some ⟨b,0,none⟩/\Ow (dc n x es ms ids T tk ct fr mn ps (Pt b 129 (UF f1 f2 f3 T q)::L)) u)\/(z.2=false/\aL aI cM s ps=none/\Ow (dc n x es ms ids T tk ct fr mn ps L) u),?_,?_⟩
 ·refine⟨_,aE (an.qz (x:=x) (es:=es) (ms:=ms) (ids:=ids) h2 (by simp)) (by simp),?_,?_⟩
  ·refine RP.gO (Ow.at 2 rfl h2) hR.u (by rw[List.length_map];omega) s (λy u hy h3=>?_) (λu hy h3=>?_)
   ·rw[iL]at hy
    obtain⟨q,hq,rfl⟩:=Option.map_eq_some_iff.1 hy
    refine⟨_,_,_,_,_,_,_,_,rfl,λb4 xv=>?_⟩
    refine(h3.new _ _ xv).st 0 rfl (by simp) λu4 h4=>.inl ⟨rfl,q,b4,_,_,_,hq,rfl,Ow.ord [2,2,1,1,0] h4⟩
   ·rw[iL]at hy
    refine⟨_,_,_,_,_,_,_,_,rfl,λb4 xv=>?_⟩
    refine(h3.new _ _ xv).st 0 rfl (by simp) λu4 h4=>.inr ⟨rfl,Option.map_eq_none_iff.1 hy,Ow.ord [1,1,0,0] h4.drop⟩
  ·intro b4 xv
   have h2:=Ow.ord [1,1,1,1,0] (h2.new 129 [pS ⟨#[]⟩,.list 7 .nil [],.list 19 .nil [],.list 1 .nil []] xv)
   refine RP.gO (Ow.at 2 rfl h2) hR.u (by rw[List.length_map];omega) s (λy u hy h3=>?_) (λu hy h3=>?_)
   ·rw[iL]at hy
    obtain⟨q,hq,rfl⟩:=Option.map_eq_some_iff.1 hy
    refine⟨_,_,_,_,_,_,_,_,rfl,?_⟩
    refine h3.st 4 rfl (by simp) λu4 h4=>.inl ⟨rfl,q,b4,_,_,_,hq,rfl,Ow.ord [1,1,0,0,0] h4⟩
   ·rw[iL]at hy
    refine⟨_,_,_,_,_,_,_,_,rfl,?_⟩
    refine h3.st 4 rfl (by simp) λu4 h4=>.inr ⟨rfl,Option.map_eq_none_iff.1 hy,(Ow.ord [1,1,0,0,0] h4).tail λ_ h=>h.tail λ_ h=>h.tail λ_ h=>h.tail λ_ h=>h.drop⟩
 ·rintro⟨_,_⟩ u (⟨rfl,q,b,f1,f2,f3,hq,rfl,h2⟩|⟨rfl,cm,h2⟩)
  ·obtain⟨Dv,Qz⟩:=(aM aP hR.si).1 hq
   have aO:=hR.rE _ Dv
   have hD:=hR.pD _ Dv
   have zC:=hR.len hD
   obtain⟨_,_,_,_,_,g1,g2⟩:=aO.facts
   obtain⟨w1,w2⟩:=tC T.B g1 (by omega)
   have abj:=LW (p:=q.conds) hR.tags aO.qf (by omega)
   have iB:=hR.core.dH.tok _ hD
   obtain⟨Fl1,hF⟩:=cb.rd hD (Ow.ord [1] h2)
   refine ab.f rfl ?_
   dsimp only[nP,nn,aF]
   refine⟨_,_,h2.rd 4 rfl (by simp),_,_,h2.rd 4 rfl (by simp),w2,_,w1,_,rfl,?_⟩
   dsimp only[nP,nn,aF]
   refine⟨_,_,aE hF (by simp),?_⟩
   dsimp only[gK]
   simp only[iB]
   have fin:∀u',Ow (dc n x es ms ids T tk ct fr mn ps (Pt b 129 (UF f1 f2 f3 T q)::L)) u'->Ow (bR n x es ps w::L) u':=λu' h=>shut (h.tail λ_ h=>h.tail λ_ h=>h.tail λ_ h=>h.tail λ_ h=>h.drop)
   refine ak.each (n:=(au es q.conds).length) (by omega) (λk u'=>(∀t∈(au es q.conds).take k,t.tags≠tg)/\u'=u) ⟨by simp,rfl⟩ ?_ ?_
   ·rintro k u3 next hk ⟨cm,rfl⟩ ar
    refine ab.t (by simpa using hk) ⟨by omega,_,aw hk,_,_,_,_,rfl,(aag _ _ (abj _ (List.getElem_mem hk)) htg).call ⟨_,rfl,ab.mk (λhe=>?_) (λaT=>ar _ ⟨λt ht=>?_,rfl⟩)⟩⟩
    ·have he:(au es q.conds)[k].tags=tg:=(dU.zero _ _).1 (by simpa using he)
     have ZR:(au es q.conds)[k].binds.length<=1000000:=by
      have:=(pR (es:=es) aO.qf _ (List.getElem_mem hk)).1
      omega
     refine(h2.nil (n:=0) (.inl rfl)).app (by simp) (by simp;omega) (by simp;omega) λf4 u4 h4=>?_
     rw[List.nil_append]
     exact h1 q hq _ (List.getElem_mem hk) he u4 f4 (fin _ h4.drop)
    ·rw[fx hk,List.mem_append]at ht
     rcases ht with ht|ht
     ·exact cm t ht
     ·simp only[List.mem_singleton]at ht
      subst ht
      exact λe=>by rw[e,dU.self]at aT;simp at aT
   ·rintro u3 next ⟨cm,rfl⟩
    rw[List.take_length]at cm
    exact ab.f (by simp) (h0 (λq' LH t ht=>by rw[hq]at LH;cases LH;exact cm t ht) _ (fin _ h2))
  ·exact ab.t rfl (h0 (λq' LH=>by rw[cm]at LH;cases LH) _ (shut h2))
end
theorem pO{ps:List Prod}(h:ca aI cM ps):ps.Nodup:=by
 refine h.imp λ{a b} uk e=>?_
 rw[e]at uk
 rw[aP.self]at uk;omega
def dk(c:ae):ae:=.mk 2 c.goal c.id c.attr c.value c.acc c.conds
theorem vI{c:ae}(h:cr c):cr (dk c):=(bu _).2 ((bu c).1 h)
def ou(s:ByteArray)(l:List ae)(p:Prod):Prod:=⟨s,l,p.bp⟩
theorem tR(c:ae):[[pI c.kind,pB c.goal,pS c.id,.list 6 .sh (c.attr.map Test.pv),.list 6 .sh (c.value.map Test.pv),pB c.acc,.list 7 .sh (c.conds.map ae.pv)]]=[c].map ae.pv:=by rw[List.map_singleton,ae.cP]
theorem B_(l:List ae)(c:ae):l.map ae.pv++[[pI c.kind,pB c.goal,pS c.id,.list 6 .sh (c.attr.map Test.pv),.list 6 .sh (c.value.map Test.pv),pB c.acc,.list 7 .sh (c.conds.map ae.pv)]]=(l++[c]).map ae.pv:=by rw[tR,List.map_append]
theorem qE(l:List ae)(c:ae):aj (l++[c])=aj l+aR c:=by
 have h:=jE (l:=l++[c]) (i:=l.length) (by simp)
 have e1:(l++[c]).take (l.length+1)=l++[c]:=List.take_of_length_le (by simp)
 have e2:(l++[c]).take l.length=l:=List.take_left' rfl
 rw[e1,e2]at h
 simpa using h
theorem oS{l:List ae}{c:ae}(h:bD l)(hc:cr c):bD (l++[c]):=bH.2 λd hd=>by
 rcases List.mem_append.1 hd with hd|hd
 ·exact bH.1 h d hd
 ·simp only[List.mem_singleton]at hd;subst hd;exact hc
theorem Nu(p:Prod)(c:ae)(es:List af){μ:Mem}{J:Bool->Mem->Prop}(hJ:∀b,(b=false->lb p/\es.length<=30/\cr c/\aR c=1)->J b μ):
  aa prog 15 [.agg [pS p.name,.list 7 .sh (p.conds.map ae.pv),.list 19 .sh (p.bp.map dh.pv)]] μ λv tE=>∃x24,v=(pB x24)/\ab x24 (J true tE)
   (aa prog 16 [.list 12 .sh (es.map af.pv),pI (30)] tE λJe tD=>∃YZ,Je=(pB YZ)/\ab (!YZ) (J true tD)
    (aa prog 17 [.list 7 .nr [[pI c.kind,pB c.goal,pS c.id,.list 6 .sh (c.attr.map Test.pv),.list 6 .sh (c.value.map Test.pv),pB c.acc,.list 7 .sh (c.conds.map ae.pv)]],pI (3),pI (0)] tD λSc IQ=>∃x33,Sc=(pI x33)/\ab (decide ((x33:Int)>(1))) (J true IQ)
     (aa prog 18 [.list 7 .nr [[pI c.kind,pB c.goal,pS c.id,.list 6 .sh (c.attr.map Test.pv),.list 6 .sh (c.value.map Test.pv),pB c.acc,.list 7 .sh (c.conds.map ae.pv)]]] IQ λv_3 EB=>∃YY,v_3=(pB YY)/\J YY EB))):=by
 have bad:J true μ:=hJ true λh=>by cases h
 refine(wy .sh .sh p).call ?_
 rintro _ ⟨q,rfl,hq⟩
 refine⟨_,rfl,ab.mk (λ_=>bad) (λh1=>?_)⟩
 refine(lE .sh es 30 (by omega)).call ?_
 rintro _ ⟨q2,rfl,Gr⟩
 refine⟨_,rfl,ab.mk (λ_=>bad) (λh2=>?_)⟩
 rw[tR]
 refine(No _ .nr [c] 3 0 (Nat.le_refl _) (by omega) (by omega)).call ?_
 rintro _ ⟨r,rfl,OH,BV⟩
 refine⟨_,rfl,ab.mk (λ_=>bad) (λh3=>?_)⟩
 have h3:¬((r:Nat):Int)>1:=by simpa using h3
 have hs:=BV (by omega)
 have Ke:aj [c]=aR c:=by simp[aj]
 have TK:=bM c
 refine(te _ .nr [c] (Nat.le_refl _) (by omega)).call ?_
 rintro _ ⟨q3,rfl,Dw⟩
 exact⟨_,rfl,hJ q3 λh4=>⟨hq h1,Gr (nt h2),bH.1 (Dw h4) c (by simp),by omega⟩⟩
theorem th(f:Fl)(l:List ae)(hs:aj l<=100000)(hl:bD l){L:List aY}{μ:Mem}(hO:Ow L μ){K:Kq}(hk:∀g μ',Ow (eH g l.length 7::L) μ'->K (.list 7 g (l.map ae.pv)) μ'):aa prog 71 [.list 7 f (l.map ae.pv)] μ K:=by
 have sM:=ch l
 refine fj.c ?_
 refine ak.dm (n:=l.length) (by omega) (λi x u=>x.2=(l.take i).map ae.pv/\Ow (eH x.1 i 7::L) u) ⟨rfl,hO.nil (.inl rfl)⟩ ?_ ?_
 ·rintro i ⟨g,_⟩ u next hi ⟨rfl,h1⟩ ar
  have hm:=eM (List.getElem_mem hi)
  obtain⟨_,ha,hv,IX,MM,mR⟩:=(bu _).1 (bH.1 hl _ (List.getElem_mem hi))
  refine ab.t (by simpa using hi) ⟨by omega,_,aw hi,_,_,_,_,_,_,_,_,_,_,iI _,?_⟩
  refine Pure.call (r:=.agg l[i].pv) (ao.of (gY.c ?_)) ?_
  ·refine(lu .sh _ (by omega) (cI IX)).call ⟨_,_,rfl,(lu .sh _ (by omega) (cI MM)).call ⟨_,_,rfl,(wA _ .sh _ (Nat.le_refl _) (by omega) mR).call ⟨_,_,rfl,?_⟩⟩⟩
   rw[ae.cP];rfl
  ·rw[ae.cP]
   refine⟨_,_,_,_,_,_,_,_,_,_,rfl,?_⟩
   have hlen:((l.take i).map ae.pv).length=i:=by rw[List.length_map,List.length_take];omega
   refine h1.app hlen (by simp;omega) (by simp;omega) λf1 μ1 h2=>ar _ _ ⟨?_,h2⟩
   rw[dT hi,ae.cP l[i]]
 ·rintro⟨g,_⟩ u next ⟨rfl,h1⟩
  refine ab.f (by simp) ?_
  rw[List.take_length]
  exact hk g u h1
theorem ri(f1 f2:Fl)(p:Prod)(h:kO p){L:List aY}{μ:Mem}(hO:Ow L μ){K:Kq}(hk:∀g μ',Ow (eH g p.conds.length 7::L) μ'->K (.agg [pS p.name,.list 7 g (p.conds.map ae.pv),.list 19 .sh (p.bp.map dh.pv)]) μ'):aa prog 20 [.agg [pS p.name,.list 7 f1 (p.conds.map ae.pv),.list 19 f2 (p.bp.map dh.pv)]] μ K:=by
 obtain⟨q1,q2,q3⟩:=h
 refine gX.c ?_
 refine aa.q (K:=λv μ'=>∃g,v=.list 7 g (p.conds.map ae.pv)/\Ow [eH g p.conds.length 7] μ') (th f1 p.conds (by omega) q1 (L:=[]) trivial λg μ' hg=>⟨g,rfl,hg⟩) ?_
 rintro _ ν hs ⟨g,rfl,hg⟩
 refine⟨_,_,rfl,(wB f2 p.bp (by omega)).q ⟨_,_,rfl,?_⟩⟩
 rw[Mem.oM]
 exact hk g _ (Ow.side hO hs hg)
theorem LU{l m:List Prod}(hn:l.Nodup)(hm:m.length<=l.length)(hs:∀x∈l,x∈m):∀x∈m,x∈l:=by
 classical
 intro x hx
 refine Classical.byContradiction λhc=>?_
 have h1:l.length<=(m.erase x).length:=sE hn λy hy=>(List.mem_erase_of_ne (λe:y=x=>hc (e▸hy))).2 (hs y hy)
 rw[List.length_erase_of_mem hx]at h1
 have:=List.length_pos_of_mem hx
 omega
section
variable {n:Nat} {x:NC} {es:List af} {ps:List Prod} {w:Nat}
theorem bR.aaQ{L:List aY}{μ:Mem}(h:Ow (bR n x es ps w::L) μ):∀q∈ps,∀t∈au es q.conds,Ai t.tags:=by
 obtain⟨_,_,_,_,_,_,_,⟨hR,hs⟩,_⟩:=bR.open_ h
 intro q hq
 obtain⟨_,_,_,_,_,_,g2⟩:=(hR.rE q hq).facts
 exact LW hR.tags (hR.rE q hq).qf (by omega)
theorem zu{s:ByteArray}{q:Prod}(h:aL aI cM s ps=some q):ofM es ps s=eB es q:=by unfold ofM;rw[h]
theorem ahS(f g:Fl){L:List aY}{μ:Mem}(hO:Ow (bR n x es ps w::L) μ){q:Prod}(hq:q∈ps){l:List Mt}(e:eB es q=l){F:Kq}(hF:F (pB true) μ):aa prog 29 [.list 2 f ((eB es q).map Mt.pv),.list 2 g (l.map Mt.pv)] μ F:=by
 obtain⟨h1,h2,h3,_,h5,_⟩:=bR.facts hO
 have hl:=iq (kM h3) q
 have hle:=vQ (λq:Prod=>(au es q.conds).length) hq
 have hs:bK es ps=(ps.map λq=>(au es q.conds).length).sum:=rfl
 exact(sw f g _ _ (by omega) (λm hm=>by have:=la (kM h3) (h5 q hq) m hm;omega)).call (λ_=>hF) (λaT=>absurd e aT)
end
theorem Ti{es:List af}(p:Prod){i:Nat}(hi:i<(cR (au es p.conds)).length){h:i<(eB es p).length}:(eB es p)[i]=⟨p.name,(cR (au es p.conds))[i].tags⟩:=by
 simp only[eB,List.getElem_map]
theorem Vf(p:Prod)(c:ae)(es:List af)(_:(∀s∈es,True)/\es.length<=maxLen):Pure prog 9 [.agg p.pv,.agg c.pv,.list 12 .sh (es.map af.pv)] (pB true):=by
 rw[ae.cP]
 refine ao.of (sb.c ?_)
 refine⟨λs u=>s=false->lb p/\es.length<=30/\cr c/\aR c=1,Nu p c es (J:=λs _=>s=false->lb p/\es.length<=30/\cr c/\aR c=1) λb h=>h,?_⟩
 rintro b u hs
 refine ab.mk (λ_=>dS u) (λhf=>?_)
 obtain⟨RQ,he,ZH,Ke⟩:=hs hf
 obtain⟨q1,q2,q3,_⟩:=RQ
 have rS:=vI ZH
 have Du:aR (dk c)=1:=by rw[bM]at Ke |-;exact Ke
 have Ua:bD (p.conds++[dk c]):=oS q1 rS
 have hsq:aj (p.conds++[dk c])<=41:=by rw[qE];omega
 have pvq:=B_ p.conds (dk c)
 refine(wz .sh .sh p ⟨q1,by omega,by omega⟩).call ⟨_,_,_,_,_,rfl,?_⟩
 refine ri .sh .sh (ou ⟨#[97]⟩ p.conds p) ⟨q1,by show aj p.conds<=50;omega,by show p.bp.length<=50;omega⟩ (L:=[]) trivial λg0 u0 h0=>⟨_,_,_,_,_,rfl,?_⟩
 have sM:=ch p.conds
 refine h0.app (by rw[List.length_map]) (by show(p.conds.length+1)*112<=_;omega) (by show p.conds.length+1<_;omega) λf1 u1 _=>?_
 have ahT:(ou ⟨#[97]⟩ p.conds p).conds.map ae.pv++[[pI 2,pB c.goal,pS c.id,.list 6 .sh (c.attr.map Test.pv),.list 6 .sh (c.value.map Test.pv),pB c.acc,.list 7 .sh (c.conds.map ae.pv)]]=(p.conds++[dk c]).map ae.pv:=pvq
 rw[ahT]
 refine(Ir .sh .sh (ou ⟨#[97]⟩ p.conds p) q1 (by show aj p.conds<=_;omega) (by show p.bp.length<=_;omega)).call ⟨_,_,rfl,ab.mk (λ_=>dS _) (λhc1=>?_)⟩
 refine(Ir .sh .sh (ou ⟨#[98]⟩ (p.conds++[dk c]) p) Ua (by show aj (p.conds++[dk c])<=_;omega) (by show p.bp.length<=_;omega)).call ⟨_,_,rfl,ab.mk (λ_=>dS _) (λhc2=>?_)⟩
 have uh:oR [ou ⟨#[97]⟩ p.conds p,ou ⟨#[98]⟩ (p.conds++[dk c]) p] 2:=⟨by simp,λq hq=>by
  simp only[List.mem_cons,List.not_mem_nil,or_false]at hq
  rcases hq with rfl|rfl
  ·exact⟨q1,by show aj p.conds<=50;omega,by show p.bp.length<=50;omega⟩
  ·exact⟨Ua,by show aj (p.conds++[dk c])<=50;omega,by show p.bp.length<=50;omega⟩⟩
 refine tU (ps:=[ou ⟨#[97]⟩ p.conds p,ou ⟨#[98]⟩ (p.conds++[dk c]) p]) .nr .sh (by omega) uh es (by omega) (L:=[]) trivial λn r x fw fW y u1 hT hM ht IY eZ hb h1=>⟨_,_,rfl,ab.f rfl ?_⟩
 obtain⟨f,h3⟩:=aW.open_ (Ow.swap h1)
 refine⟨_,_,h3.rd 0 rfl (by simp),ab.mk (λ_=>dS _) (λh2=>?_)⟩
 have h2:fW.length=2:=by simp only[List.length_map,hb.ps,bne_eq_false_iff_eq]at h2;omega
 obtain⟨_,_,hu,IV,TN,_⟩:=bR.facts h1
 have aT:=kM hu
 have gG:=LU (pO IV) (by simp;omega) eZ
 have hp1:=gG (ou ⟨#[97]⟩ p.conds p) (by simp)
 have hp2:=gG (ou ⟨#[98]⟩ (p.conds++[dk c]) p) (by simp)
 have HN:aL aI cM ⟨#[97]⟩ fW=some (ou ⟨#[97]⟩ p.conds p):=(aM aP IV).2 ⟨hp1,rfl⟩
 have ZK:aL aI cM ⟨#[98]⟩ fW=some (ou ⟨#[98]⟩ (p.conds++[dk c]) p):=(aM aP IV).2 ⟨hp2,rfl⟩
 have abj:=bR.aaQ h1 _ hp1
 have XN:=Da (es:=fw) aT (p:=ou ⟨#[97]⟩ p.conds p) (q:=ou ⟨#[98]⟩ (p.conds++[dk c]) p) (c:=dk c) rfl rfl
 refine(Rg n _).call ⟨_,_,_,rfl,Rh (by omega) _ h1 λf2 u2 h4=>⟨_,_,rfl,?_⟩⟩
 rw[zu HN]
 let R:Nat->List Mt:=λi=>(((cR (au fw p.conds)).take i).filter λt=>(aN (dk c) t.binds fw).isEmpty).map λt=>⟨⟨#[98]⟩,t.tags⟩
 have ZG:(eB fw (ou ⟨#[97]⟩ p.conds p)).length=(cR (au fw p.conds)).length:=by unfold eB;rw[List.length_map];rfl
 have hS:=(fQ (dv aT p.conds)).2
 have Yd:(cR (au fw p.conds)).length<=1000000:=by
  rw[gQ (dv aT _)]
  have h6:=hb.ok.adV (p:=ou ⟨#[97]⟩ p.conds p) (by rw[hb.ps];exact hp1)
  rw[xB hb.ok.ne,<- (kX hb.es _).length_eq]at h6
  have h6:(au fw p.conds).length<=1024:=h6
  omega
 refine ak.dm (n:=(cR (au fw p.conds)).length) (by omega) (λi s u=>s.2=(R i).map Mt.pv/\(R i).length<=i/\Ow (eH s.1 (R i).length 2::bR n x fw fW 20::aW r y::[]) u) ⟨rfl,by simp[R],h4.nil (.inl rfl)⟩ ?_ ?_
 ·rintro i ⟨g,_⟩ u3 next hi ⟨rfl,hRl,h5⟩ ar
  dsimp only at h5 |-
  have vX:i<(eB fw (ou ⟨#[97]⟩ p.conds p)).length:=by omega
  have Fc:(eB fw (ou ⟨#[97]⟩ p.conds p))[i]=⟨⟨#[97]⟩,(cR (au fw p.conds))[i].tags⟩:=Ti (ou ⟨#[97]⟩ p.conds p) hi
  have htm:=(hS _).1 (List.getElem_mem hi)
  refine ab.t (decide_eq_true (by rw[List.length_map,ZG];omega)) ⟨by omega,_,aw vX,_,_,_,rfl,?_⟩
  rw[Fc]
  refine Yw (by omega) ⟨#[97]⟩ _ (abj _ htm) .sh (Ow.ord [1] h5) (λq hq t ht htt u4 g2 h6=>?_) (λcm=>absurd rfl (cm _ HN _ htm))
  rw[HN]at hq;cases hq
  obtain rfl:t=(cR (au fw p.conds))[i]:=by
   obtain⟨k1,k2⟩:=fQ (dv aT p.conds)
   exact zb dU k1 ((k2 t).2 ht) (List.getElem_mem hi) htt
  refine⟨_,_,_,rfl,ab.f rfl ?_⟩
  have h7:Ow (eH g (R i).length 2::bR n x fw fW 20::aW r y::[]) u4:=Ow.ord [1] h6
  have ZT:R (i+1)=R i++if(aN (dk c) (cR (au fw p.conds))[i].binds fw).isEmpty then[⟨⟨#[98]⟩,(cR (au fw p.conds))[i].tags⟩]else[]:=by
   show List.map _ (List.filter _ (List.take (i+1) _))=_
   rw[fx hi,List.filter_append,List.map_append]
   congr 1
   rw[List.filter_cons,List.filter_nil]
   split<;>rfl
  refine ak.dm (n:=y.es.length) (by have:=hb.ok.en;omega) (λk b u=>b=(aN (dk c) (cR (au fw p.conds))[i].binds (y.es.take k)).isEmpty/\u=u4) ⟨by simp[aN],rfl⟩ ?_ ?_
  ·rintro k _ u5 qc hk ⟨rfl,rfl⟩ gq
   obtain⟨f3,h8⟩:=aW.open_ (Ow.ord [2] h7)
   have ZR:(cR (au fw p.conds))[i].binds.length<=900000:=by
    have:=(pR (es:=fw) q1 _ htm).1
    have:=ch p.conds
    omega
   obtain⟨_,l1,l2,l3,l4,_⟩:=(bu (dk c)).1 rS
   refine⟨_,_,h8.rd 0 rfl (by simp),ab.t (by simpa using hk) ⟨_,_,h8.rd 0 rfl (by simp),by omega,_,aw hk,_,_,_,_,_,_,_,_,_,_,_,_,rfl,?_⟩⟩
   refine ao.call (Pc .sh .sh .sh g2 (dk c) y.es[k] (cR (au fw p.conds))[i].binds (by omega) (λt ht=>by have:=cI l3 t ht;omega) (λt ht=>by have:=cI l4 t ht;omega)) λv hv=>?_
   obtain⟨l',rfl,XQ⟩:=hv
   have e2:aN (dk c) (cR (au fw p.conds))[i].binds (y.es.take (k+1))=aN (dk c) (cR (au fw p.conds))[i].binds (y.es.take k)++((cO (dk c) y.es[k] (cR (au fw p.conds))[i].binds).map λq=>(y.es[k],q)).toList:=by rw[nz hk]
   refine⟨_,_,_,rfl,ab.mk (λUg=>gq _ _ ⟨?_,rfl⟩) (λUg=>gq _ _ ⟨?_,rfl⟩)⟩
   ·rw[e2]
    have ht:(aN (dk c) (cR (au fw p.conds))[i].binds (y.es.take k)).isEmpty=true:=Ug
    cases hc:cO (dk c) y.es[k] (cR (au fw p.conds))[i].binds with
    |none=>simp[ht]
    |some q=>simp
   ·rw[e2]
    have ht:(aN (dk c) (cR (au fw p.conds))[i].binds (y.es.take k)).isEmpty=false:=Ug
    cases hs:aN (dk c) (cR (au fw p.conds))[i].binds (y.es.take k)with
    |nil=>rw[hs]at ht;cases ht
    |cons a b=>simp
  ·rintro b u5 qc ⟨rfl,rfl⟩
   rw[List.take_length]
   obtain⟨f3,h8⟩:=aW.open_ (Ow.ord [2] h7)
   have mu:(aN (dk c) (cR (au fw p.conds))[i].binds y.es).isEmpty=(aN (dk c) (cR (au fw p.conds))[i].binds fw).isEmpty:=(rb (qC hb.es _ _)).symm
   rw[mu]
   refine⟨_,_,h8.rd 0 rfl (by simp),ab.f (by simp) (ab.mk (λht=>?_) (λhf=>?_))⟩
   ·rw[if_pos ht]at ZT
    refine⟨by omega,_,aw vX,_,_,rfl,?_⟩
    rw[Fc]
    refine h7.app (by simp) (by simp;omega) (by simp;omega) λg3 u6 h9=>ar _ _ ⟨?_,?_,?_⟩
    ·rw[ZT,List.map_append];rfl
    ·rw[ZT,List.length_append];simp;omega
    ·rw[ZT,List.length_append];exact h9
   ·have hf:¬(aN (dk c) (cR (au fw p.conds))[i].binds fw).isEmpty=true:=λh=>by have:=hf.symm.trans h;cases this
    rw[if_neg hf,List.append_nil]at ZT
    exact ar _ _ ⟨by rw[ZT],by rw[ZT];omega,by rw[ZT];exact h7⟩
 ·rintro⟨g,_⟩ u3 next ⟨rfl,hRl,h5⟩
  dsimp only at h5 |-
  have hRe:R (cR (au fw p.conds)).length=eB fw (ou ⟨#[98]⟩ (p.conds++[dk c]) p):=by
   rw[XN]
   show List.map _ (List.filter _ (List.take _ _))=_
   rw[List.take_length];rfl
  refine ab.f (decide_eq_false (by rw[List.length_map,ZG];omega)) ?_
  refine(Rg n _).call ⟨_,_,_,rfl,Rh (by omega) _ (Ow.ord [1] h5) λf2 u4 h6=>⟨_,_,rfl,?_⟩⟩
  rw[zu ZK]
  exact ahS _ _ h6 hp2 hRe.symm ⟨_,rfl,ab.t rfl (dS _)⟩
open Go.ChangeShapes Go.WideShapes Go.ChangeAt
set_option maxRecDepth 100000 in
theorem ReteNot.lifted(os:Os)(started:os.Started)(H:Type)(enc:TypeId×Value->H):
  ReturnsInHanded {} Tryz.checked os 9 .any (Rows.reteNotSpec.pre6 enc prog f9 Rows.reteNotRow.domain false) (Rows.reteNotSpec.post enc prog f9 false true false false):=by
 refine returnsInHanded_of_change (C:=Tryz.checked) qK started (by kernel_rfl) func9
  (ChangeSpec.witness6 (enc:=enc) (C:=Tryz.checked) false ⟨#[],#[.agg #[.string ByteArray.empty,.slice none 0 0,.slice none 0 0],.agg #[.int .i64 0,.bool false,.string ByteArray.empty,.slice none 0 0,.slice none 0 0,.bool false,.slice none 0 0],.slice none 0 0],[]⟩ 12 (by kernel_rfl) (by kernel_rfl) (by kernel_rfl) (by kernel_rfl)) ?_
 intro W base args ds gs before jH hW QG _
 have gU:∀(j:Nat) t v,f9.params[j]?=some t->args[j]?=some v->Value.okWide prog W .any base t v:=jH
 have QI:=hW
 obtain⟨p,q,Gv,hV,rfl,ZM,Bv⟩:=hW
 have hA:DataW.TrodAll enc prog W 0 (λ_=>true) true f9.params.toList args.toList ds p:=Gv
 rw[params9]at hA gU
 obtain⟨v0,vs0,d0,ds0,p0,q0,AW,rfl,rfl,h0,r0⟩:=trodAll_cons hA
 obtain⟨v1,WA,d1,ds1,p1,q1,rfl,rfl,rfl,h1,r1⟩:=trodAll_cons r0
 obtain⟨v2,vs2,d2,ds2,p2,q2,rfl,rfl,rfl,h2,r2⟩:=trodAll_cons r1
 obtain⟨rfl,rfl,rfl⟩:=trodAll_nil r2
 obtain rfl:args= #[v0,v1,v2]:=by cases args;simp_all
 obtain⟨rfl,rfl⟩:=trodVars_none hV
 have Qq:∀x∈p0,x.block<W.heap.size:=by obtain⟨m,hm⟩:=h0;exact DataW.trod_lt m _ _ _ hm
 obtain⟨a0,e0,w0⟩:=qL underlying25 vv (gU 0 25 v0 rfl rfl) h0
 have Qp:∀x∈p1,x.block<W.heap.size:=by obtain⟨m,hm⟩:=h1;exact DataW.trod_lt m _ _ _ hm
 obtain⟨a1,e1,w1⟩:=qL underlying28 Mo (gU 1 28 v1 rfl rfl) h1
 have Tm:∀x∈p2,x.block<W.heap.size:=by obtain⟨m,hm⟩:=h2;exact DataW.trod_lt m _ _ _ hm
 obtain⟨a2,e2,w2⟩:=iY underlying29 jq (by omega) ph (gU 2 29 v2 rfl rfl) h2
 clear Gv jH
 refine(ao.calls (vs:=[v0,v1,v2]) (Vf a0 a1 a2 w2) (bf.cons rfl e0 (bf.cons rfl e1 (bf.cons rfl e2 (bf.nil _))))).mono λe W' ⟨⟨v,x,Z,he,hr,hx⟩,tj⟩=>?_
 subst hx;subst he;rw[hr.ofRaw.1]
 exact⟨_,rfl,_,_,_,[],_,[],QI,trodAll_mk1 (shut_bool underlying4 _),(trodAll_cons_mk (Below.trod dj (by kernel_rfl) (of_decide_eq_true (by kernel_rfl)) h0 tj Qq) (trodAll_cons_mk (Below.trod dj (by kernel_rfl) (of_decide_eq_true (by kernel_rfl)) h1 tj Qp) (trodAll_cons_mk (Below.trod dj (by kernel_rfl) (of_decide_eq_true (by kernel_rfl)) h2 tj Tm) trodAll_mk0))),rfl,tj.frame _,λh=>by cases h⟩
theorem and2{a b:Bool}(h:a=true)(k:b=true):(a&&b)=true:=by rw[h,k];rfl
set_option maxHeartbeats 0 in
theorem ReteNot.closed:joinedFacts Tryz.checked.prog 9 f9 Rows.reteNotSpec Rows.reteNotRow=true:=by
 unfold joinedFacts
 repeat' with_reducible apply and2
 all_goals (as_aux_lemma=>kernel_rfl)
theorem ReteNot.proved:Rows.ReteNotSaid:=
 OpenClaim.holds_of_wide 9 f9 rfl rfl rfl rfl rfl rfl rfl ⟨rfl,rfl,rfl,rfl,rfl⟩ rfl rfl rfl rfl rfl (by kernel_rfl) func9 ReteNot.closed
  (of_decide_eq_true (by kernel_rfl)) (by unfold Func.isWrapper;first|(rw[if_pos (by decide +kernel)];kernel_rfl)|(rw[if_neg (by decide +kernel)];exact⟨rfl,rfl⟩))
  (λos started H enc _=>ReteNot.lifted os started H enc)
end Go.Proofs.YtbodiiomcfgokaaGreat
