/- What is proved: the statement ReteBack, as it is given, for every input that it speaks of. Conditions: none. -/
import Derived.Test.YtbodiiomcfgokaaGreatB14
import Derived.Test.YtbodiiomcfgokaaGreatChecked
import Derived.KernelRfl
import Derived.ChangeArms
import Derived.WideShapes
import Derived.DataReads
import Derived.WalkKit
import Derived.ProofKit
import Derived.OpenShut
import Derived.ShutString
import Derived.ChangeOld
import Derived.Below
set_option linter.all false
namespace Go.Proofs.YtbodiiomcfgokaaGreat
open Go.Proofs.Tryz Go.aK
variable {u0:Mem} {K:Kq}
set_option maxRecDepth 100000
theorem ru.c{i k A b4 b5:Fl}{g j d l m:Lq}{e:ByteArray}(h: bZ (α:=Bool) (λf=> aa prog 36 [.list 3 i g,.list 12 k j] u0 λd4 D=> ∃R,d4=(pB R)/\ ab (!R) (f true D) (aa prog 16 [.list 12 A d,pI 20] D λd5 J=> ∃S,d5=(pB S)/\ ab (!S) (f true J) (aa prog 15 [.agg [pS e,.list 7 .sh l,.list 19 .sh m]] J λe6 c8=> ∃T,e6=(pB T)/\ f T c8))) (λb9 C=> ab b9 (aa prog 19 [] C λe7 c9=> ∃U,e7=(pB U)/\ K (pB U) c9) (aa prog 22 [.list 3 i g,.list 12 k j] C λe8 O=> ∃b f4,e8=(.aD [pA b,pA f4])/\ ab (Option.isNone b) (K (pB false) O) (aa prog 58 [pA b] O λe9 d0=> ∃V W X,e9=(.fn V W X)/\ aa prog 23 [.fn V W X] d0 λf0 d1=> ∃Z Y,f0=(.list 2 Z Y)/\ aa prog 32 [pA b] d1 λf1 d2=> ∃a0,f1=(pI a0)/\ aa prog 49 [pA b] d2 λf2 d3=> ∃a1,f2=(pI a1)/\ ak (α:=(Fl×Lq)×(Fl×Lq)×Int) (λb8 a E=> ab (decide (a.2.2<((List.length d:Nat):Int))) (0<=a.2.2/\∃(B:List PV),(d)[Int.toNat a.2.2]?=some B/\ ∃n o p q r s t u v w x f5,ay B 0 12=some [pI n,pS o,pI p,pI q,pS r,pI s,pI t,pS u,pI v,pB w,pB x,pI f5]/\ aV false 12 112 a.1.1 a.1.2 [[pI n,pS o,pI p,pI q,pS r,pI s,pI t,pS u,pI v,pB w,pB x,pI (IntKind.wrap .i64 (1000+a.2.2))]] E λb6 c0=> aV false 1 8 a.2.1.1 a.2.1.2 [[pI (IntKind.wrap .i64 (1000+a.2.2))]] c0 λb7 c1=> b8 ((b6,(a.1.2++[[pI n,pS o,pI p,pI q,pS r,pI s,pI t,pS u,pI v,pB w,pB x,pI (IntKind.wrap .i64 (1000+a.2.2))]])),(b7,(a.2.1.2++[[pI (IntKind.wrap .i64 (1000+a.2.2))]])),(IntKind.wrap .i64 (a.2.2+1))) c1) (bZ (α:=Unit) (λy=> aa prog 39 [pA b,.list 12 a.1.1 a.1.2,.list 1 .nil []] E λf3 F=> ∃a2,f3=(pI a2)/\ ab (a2 == 0) (bZ (α:=Unit) (λz=> aa prog 41 [pA b,.agg [pS e,.list 7 .sh l,.list 19 .sh m]] F λd6 G=> ∃a3,d6=(pI a3)/\ ab (a3 == 0) (aa prog 34 [pA b,pS e] G λd7 H=> ∃a4,d7=(pB a4)/\ ab (!a4) (K (pB false) H) (z () H)) (z () G)) (λf7 c3=> aa prog 39 [pA b,.list 12 .nil [],.list 1 a.2.1.1 a.2.1.2] c3 λd8 I=> ∃a5,d8=(pI a5)/\ ab (a5 != 0) (aa prog 19 [] I λd9 c4=> ∃a6,d9=(pB a6)/\ K (pB a6) c4) (y () I))) (y () F)) (λf6 c2=> aa prog 58 [pA b] c2 λe0 c5=> ∃a7 a8 a9,e0=(.fn a7 a8 a9)/\ aa prog 23 [.fn a7 a8 a9] c5 λe1 c6=> ∃b1 b0,e1=(.list 2 b1 b0)/\ aa prog 29 [.list 2 b1 b0,.list 2 Z Y] c6 λe2 L=> ∃b2,e2=(pB b2)/\ ab b2 (aa prog 32 [pA b] L λe3 M=> ∃b3,e3=(pI b3)/\ ab (b3 == a0) (aa prog 49 [pA b] M λe4 N=> ∃P,e4=(pI P)/\ ab (P == a1) (aa prog 19 [] N λe5 c7=> ∃Q,e5=(pB Q)/\ K (pB Q) c7) (K (pB false) N)) (K (pB false) M)) (K (pB false) L)))) ((.nil,[]),(.nil,[]),0) d3)))):aa prog 13 [.list 3 i g,.list 12 k j,.list 12 A d,.agg [pS e,.list 7 b4 l,.list 19 b5 m]] u0 K:= VC [7,17] [(10,⟨[(14,.one (.list 12)),(15,.one (.list 1)),(16,.one (.raw (.int .i64)))],[]⟩)] [(2,⟨[(30,.one (.raw .bool))],[]⟩),(19,⟨[],[]⟩),(21,⟨[],[]⟩)] [] [] [] [] func13 h
theorem cD.c{b:Fl}{a:Lq}{d:Int}(h: aa prog 69 [.list 12 b a,pI d] u0 λg f=> ∃e,g=(pB e)/\ K (pB e) f):aa prog 16 [.list 12 b a,pI d] u0 K:= VC [] [] [] [] [] [] [] func16 h
theorem eJ.c{s t:Fl}{b d:Lq}(h: ab (((List.length b:Nat):Int) != ((List.length d:Nat):Int)) (K (pB false) u0) (ak (α:=Int) (λu a e=> ab (decide (a<((List.length b:Nat):Int))) (0<=a/\∃(f:List PV),(b)[Int.toNat a]?=some f/\ ∃l,ay f 0 1=some [pS l]/\ 0<=a/\∃(g:List PV),(d)[Int.toNat a]?=some g/\ ∃m,ay g 0 1=some [pS m]/\ ab (!aJ l m) (K (pB false) e) (0<=a/\∃(i:List PV),(b)[Int.toNat a]?=some i/\ ∃o n,ay i 1 1=some [.list 1 o n]/\ 0<=a/\∃(j:List PV),(d)[Int.toNat a]?=some j/\ ∃q p,ay j 1 1=some [.list 1 q p]/\ aa prog 77 [.list 1 o n,.list 1 q p] e λv k=> ∃r,v=(pB r)/\ ab (!r) (K (pB false) k) (u (IntKind.wrap .i64 (a+1)) k))) (K (pB true) e)) (0) u0)):aa prog 29 [.list 2 s b,.list 2 t d] u0 K:= VC [] [(4,⟨[(5,.one (.raw (.int .i64)))],[]⟩)] [] [] [] [] [] func29 h
theorem cG.c{m:Fl}{a:Lq}{d:Int}(h: ab (decide (((List.length a:Nat):Int)>d)) (K (pB true) u0) (ak (α:=Int) (λn b f=> ab (decide (b<((List.length a:Nat):Int))) (0<=b/\∃(e:List PV),(a)[Int.toNat b]?=some e/\ ∃i p j q k,ay e 0 3=some [pS i,.list 7 p j,.list 19 q k]/\ aa prog 15 [.agg [pS i,.list 7 .sh j,.list 19 .sh k]] f λo g=> ∃l,o=(pB l)/\ ab l (K (pB true) g) (n (IntKind.wrap .i64 (b+1)) g)) (K (pB false) f)) (0) u0)):aa prog 30 [.list 3 m a,pI d] u0 K:= VC [] [(4,⟨[(5,.one (.raw (.int .i64)))],[]⟩)] [] [] [] [] [] func30 h
theorem ee.c{a:Option Addr}(h: nP a λe f=> ∃b,aB u0 e (f+2) 1=some [pA b]/\ aa prog 82 [pA b] u0 λi g=> ∃d,i=(pI d)/\ K (pI d) g):aa prog 32 [pA a] u0 K:= VC [] [] [] [] [] [] [] func32 h
theorem kq.c{b:Option Addr}{f:ByteArray}(h: nP b λm p=> ∃i,aB u0 m (p+6) 1=some [pA i]/\ aa prog 84 [pA i,pS f] u0 λu d=> ∃w y x A z j a k,u=(.aD [.agg [pS w,.list 7 y x,.list 19 A z,.list 1 j a],pB k])/\ ab (!k) (K (pB false) d) (0<=(IntKind.wrap .i64 (((List.length a:Nat):Int)-1))/\∃(g:List PV),(a)[Int.toNat (IntKind.wrap .i64 (((List.length a:Nat):Int)-1))]?=some g/\ ∃e,ay g 0 1=some [pA e]/\ nP e λn q=> ∃l,aB d n (q+11) 1=some [pI l]/\ nP e λo r=> stM o (r+11) [pI (IntKind.wrap .i64 (l-1))] d λs=> aa prog 85 [pA b,.list 1 j a] s λv t=>
 v=(.aD [])/\ K (pB true) t)):aa prog 34 [pA b,pS f] u0 K:= VC [5] [] [] [] [] [] [] func34 h
theorem eW.c{b e:Fl}{a d:Lq}(h: aa prog 30 [.list 3 b a,pI 6] u0 λk f=> ∃i,k=(pB i)/\ ab (!i) (aa prog 16 [.list 12 e d,pI 30] f λl j=> ∃g,l=(pB g)/\ K (pB g) j) (K (pB false) f)):aa prog 36 [.list 3 b a,.list 12 e d] u0 K:= VC [] [] [] [] [] [] [] func36 h
theorem eP.c{l:Option Addr}(h: bJ u0 3 [pI 0] λa E=> stM a 0 [pI 0] E λo=> nP l λx B=> ∃q,aB o x (B+6) 1=some [pA q]/\ aa prog 89 [pA q] o λI F=> ∃r s t,I=(.fn r s t)/\ bk prog (.fn r s t) (λJ w G=> ∃L M O N Q P R g,J=[pS L,.agg [pS M,.list 7 O N,.list 19 Q P,.list 1 R g]]/\ ak (α:=Int) (λz b e=> ab (decide (b<((List.length g:Nat):Int))) (0<=b/\∃(m:List PV),(g)[Int.toNat b]?=some m/\ ∃u,ay m 0 1=some [pA u]/\ nP u λy C=> ∃S i,aB e y (C+10) 1=some [.list 1 S i]/\ ak (α:=Int) (λA d f=> ab (decide (d<((List.length i:Nat):Int))) (0<=d/\∃(n:List PV),(i)[Int.toNat d]?=some n/\ ∃j,ay n 0 1=some [pI j]/\ ∃k,aB f a 0 1=some [pI k]/\ stM a 0 [pI (if j>k then j else k)] f λH=> A (IntKind.wrap .i64 (d+1)) H) (z (IntKind.wrap .i64 (b+1)) f)) (0) e) (w none e)) (0) G) (λD p=> PK D (∃v,aB p a 0 1=some [pI v]/\ K (pI v) p) (False) []) F):aa prog 49 [pA l] u0 K:= VC [5] [(5,⟨[(20,.one (.raw (.int .i64)))],[]⟩),(8,⟨[(29,.one (.raw (.int .i64)))],[]⟩)] [] [(15,[139,129])] [] [] [] func49 h
theorem cB.c{m:Fl}{b:Lq}{e:Int}(h: ab (decide (((List.length b:Nat):Int)>e)) (K (pB false) u0) (ak (α:=Int) (λn a d=> ab (decide (a<((List.length b:Nat):Int))) (0<=a/\∃(f:List PV),(b)[Int.toNat a]?=some f/\ ∃j,ay f 1 1=some [pS j]/\ ab (decide ((((ByteArray.size j:Nat):Int):Int)>100)) (K (pB false) d) (0<=a/\∃(g:List PV),(b)[Int.toNat a]?=some g/\ ∃k,ay g 4 1=some [pS k]/\ ab (decide ((((ByteArray.size k:Nat):Int):Int)>100)) (K (pB false) d) (0<=a/\∃(i:List PV),(b)[Int.toNat a]?=some i/\ ∃l,ay i 7 1=some [pS l]/\ ab (decide ((((ByteArray.size l:Nat):Int):Int)>100)) (K (pB false) d) (n (IntKind.wrap .i64 (a+1)) d)))) (K (pB true) d)) (0) u0)):aa prog 69 [.list 12 m b,pI e] u0 K:= VC [] [(4,⟨[(5,.one (.raw (.int .i64)))],[]⟩)] [] [] [] [] [] func69 h
theorem dK.c{k l:Fl}{b d:Lq}(h: ab (((List.length b:Nat):Int) != ((List.length d:Nat):Int)) (K (pB false) u0) (ak (α:=Int) (λm a e=> ab (decide (a<((List.length b:Nat):Int))) (0<=a/\∃(f:List PV),(b)[Int.toNat a]?=some f/\ ∃i,ay f 0 1=some [pI i]/\ 0<=a/\∃(g:List PV),(d)[Int.toNat a]?=some g/\ ∃j,ay g 0 1=some [pI j]/\ ab (i != j) (K (pB false) e) (m (IntKind.wrap .i64 (a+1)) e)) (K (pB true) e)) (0) u0)):aa prog 77 [.list 1 k b,.list 1 l d] u0 K:= VC [] [(4,⟨[(5,.one (.raw (.int .i64)))],[]⟩)] [] [] [] [] [] func77 h
theorem gJ.c{e:Option Addr}(h: nP e λj m=> ∃i d q,aB u0 j (m+7) 1=some [pV i d q]/\ ak (α:=Int×Int) (λl a b=> ab (decide (a.2<((d:Nat):Int))) (cK i λk n=> 0<=a.2/\a.2<((d:Nat):Int)/\ ∃f,aB b k (n+Int.toNat a.2*1) 1=some [pA f]/\ aa prog 82 [pA f] b λp o=> ∃g,p=(pI g)/\ l ((IntKind.wrap .i64 ((IntKind.wrap .i64 (a.1+1))+g)),(IntKind.wrap .i64 (a.2+1))) o) (K (pI a.1) b)) (0,0) u0):aa prog 82 [pA e] u0 K:= VC [] [(3,⟨[(3,.one (.raw (.int .i64))),(11,.one (.raw (.int .i64)))],[]⟩)] [] [] [] [] [8,9] func82 h
end Go.Proofs.YtbodiiomcfgokaaGreat
namespace Go.aK
open Go.RowKit
section
variable {P:Program} {w:World} {n:Nat} {t:TypeId} {cs:List Value}
section
variable {H:Type} {enc:TypeId×Value->H} {r:Reach} {base:Nat} {v:Value} {d:DataW H} {p:List MemPlace}
theorem qL{T:Type}{pv:T->List PV}{Q:T->Prop}{fs:Array Field}(ht:P.underlying t=some (.struct fs))(he:∀m cs,Reads P w m t cs->∃s,bF (gA w) (pv s) cs/\Q s)(hv:Value.okWide P w r base t v)(h:DataW.Trod enc P w 0 (λ_=>true) true t v d p):
  ∃s,cy (gA w) (.agg (pv s)) v/\Q s:=by
 simp only[Value.okWide,ht]at hv
 obtain⟨cs,rfl,_,_⟩:=hv
 obtain⟨n,hn⟩:=Reads.of h
 obtain⟨s,e,hq⟩:=he n _ hn
 exact⟨s,e.pT,hq⟩
end
end
end Go.aK
namespace Go.Proofs.YtbodiiomcfgokaaGreat
open Go.Proofs.Tryz Go.aK Go.RowKit
theorem rh(f:Fl)(l:List af)(n:Nat)(OK:n<=1000000):ao prog 69 [.list 12 f (l.map af.pv),pI (n:Nat)] λp=>∃q:Bool,p=pB q/\(q=true->l.length<=n):=by
 refine ao.of (cB.c (ab.mk (λh=>⟨false,rfl,λh=>by cases h⟩) (λh=>?_)))
 have hn:l.length<=n:=by simpa using h
 refine ak.each (n:=l.length) (by omega) (λ_ _=>True) trivial (λk u next hk _ ar=>?_) (λu next _=>ab.f (by simp) ⟨true,rfl,λ_=>hn⟩)
 refine ab.t (by simpa using hk) ⟨by omega,_,aw hk,_,rfl,ab.mk (λ_=>⟨false,rfl,λh=>by cases h⟩) (λ_=>⟨by omega,_,aw hk,_,rfl,ab.mk (λ_=>⟨false,rfl,λh=>by cases h⟩) (λ_=>⟨by omega,_,aw hk,_,rfl,ab.mk (λ_=>⟨false,rfl,λh=>by cases h⟩) (λ_=>ar _ trivial)⟩)⟩)⟩
theorem lE(f:Fl)(l:List af)(n:Nat)(OK:n<=1000000):ao prog 16 [.list 12 f (l.map af.pv),pI (n:Nat)] λp=>∃q:Bool,p=pB q/\(q=true->l.length<=n):=by
 refine ao.of (cD.c ?_)
 exact(rh f l n OK).call λp ⟨q,e,h⟩=>⟨q,e,q,rfl,h⟩
namespace RP
theorem mN{k:KY}{a0:Option Addr}{u0:Mem}{K:Kq}(h:M.drop a0 u0 K (db k) 132 142):aa prog 84 [pA a0,db k] u0 K:=VC [4,6] [] [(5,⟨[(7,.one (.raw .ptr)),(8,.one (.raw .bool))],[]⟩),(7,⟨[],[]⟩)] [] [] [] [] func84 h
def jA:=Hy.jA lq ia mN
end RP
def cN(T:Tree)(p:Path):Nat:=(T.D.filter λq=>decide (p <+: q)).length
theorem oB.EH{T:Tree}(h:oB T){p:Path}(hp:p∈T.D):cN T p=1+((T.K p).map λc=>cN T (p++[c])).sum:=by
 have e:(1+((T.K p).map λc=>cN T (p++[c])).sum)=(p::(T.K p).flatMap λc=>T.D.filter λq=>decide ((p++[c]) <+: q)).length:=by
  rw[List.length_cons,List.length_flatMap,Nat.add_comm];rfl
 rw[e]
 unfold cN
 refine qb (h.nodup.filter _) ?_ λq=>?_
 ·refine List.nodup_cons.2 ⟨λhm=>?_,?_⟩
  ·obtain⟨c,_,hc⟩:=List.mem_flatMap.1 hm
   have:=(List.mem_filter.1 hc).2
   have cZ:(p++[c]) <+: p:=by simpa using this
   have h9:=cZ.length_le
   rw[List.length_append,List.length_singleton]at h9
   omega
  ·have hk:=h.Bt p hp
   generalize T.K p=K at hk
   induction K with
   |nil=>exact List.nodup_nil
   |cons c K ih=>
    obtain⟨h1,h2⟩:=List.nodup_cons.1 hk
    rw[List.flatMap_cons]
    refine List.nodup_append.2 ⟨h.nodup.filter _,ih h2,λa ha b hb e=>?_⟩
    subst e
    obtain⟨c',rI,iK⟩:=List.mem_flatMap.1 hb
    have q1:(p++[c]) <+: a:=by simpa using(List.mem_filter.1 ha).2
    have q2:(p++[c']) <+: a:=by simpa using(List.mem_filter.1 iK).2
    have e2:p++[c]=p++[c']:=by
     rcases List.prefix_or_prefix_of_prefix q1 q2 with h3|h3
     ·exact h3.eq_of_length (by simp)
     ·exact(h3.eq_of_length (by simp)).symm
    have:c=c':=by simpa using e2
    exact h1 (this▸rI)
 ·rw[List.mem_filter,List.mem_cons,List.mem_flatMap]
  constructor
  ·rintro⟨hq,cZ⟩
   by_cases e:q=p
   ·exact .inl e
   ·obtain⟨c,hc,h2⟩:=(h.below hp hq).1 ⟨by simpa using cZ,e⟩
    exact .inr ⟨c,hc,List.mem_filter.2 ⟨hq,by simpa using h2⟩⟩
  ·rintro(rfl|⟨c,hc,hm⟩)
   ·exact⟨hp,by simp⟩
   ·obtain⟨hq,h2⟩:=List.mem_filter.1 hm
    have h2:(p++[c]) <+: q:=by simpa using h2
    exact⟨hq,by simpa using((List.prefix_append p [c]).trans h2)⟩
theorem lp(T:Tree):cN T []=T.D.length:=by
 unfold cN
 rw[List.filter_eq_self.2 λq _=>by simp]
theorem re(T:Tree)(p:Path):cN T p<=T.D.length:=List.length_filter_le _ _
section
variable {T:Tree} {fr:Path->List cf} {mn:Path->List Nat}
theorem wD(h:oB T){tk:Path->List cf}{ct:Path->List Nat}:∀(n:Nat) (p:Path),p∈T.D->17-p.length<=n->∀{L:List aY} {μ:Mem},Ow (cb T tk ct fr mn::L) μ->∀{K:Kq},(∀μ',Ow (cb T tk ct fr mn::L) μ'->K (pI ((cN T p-1:Nat):Int)) μ')->aa prog 82 [pP (T.B p) 0] μ K:=by
 intro n
 induction n with
 |zero=>intro p hp hn;have:=h.len p hp;omega
 |succ n ih=>
  intro p hp hn L μ hO K hk
  have ui:=h.Bg
  obtain⟨F,hF⟩:=cb.rd hp hO
  have HQ:=h.EH hp
  have hle:=re T p
  have dQ:∀i,(((T.K p).take i).map λc=>cN T (p++[c])).sum<=((T.K p).map λc=>cN T (p++[c])).sum:=λi=>by
   conv=>rhs;rw[<- List.take_append_drop i (T.K p)]
   rw[List.map_append,List.sum_append];omega
  have ED:=h.kl hp
  refine gJ.c ⟨_,_,_,aE hF (by simp),?_⟩
  refine ak.dm (n:=(T.K p).length) (by omega) (λi s u=>s=(((((T.K p).take i).map λc=>cN T (p++[c])).sum:Nat):Int)/\Ow (cb T tk ct fr mn::L) u) ⟨by simp,hO⟩ ?_ ?_
  ·rintro i s u next hi ⟨rfl,h2⟩ ar
   have po:=h.HE hp hi
   obtain⟨b,hb,fB⟩:=cb.Zn hp h2 hi
   dsimp only[gK]
   rw[hb]
   refine ab.t (by simpa using hi) ⟨by omega,by simpa using hi,_,?_,ih _ po (by simp;omega) h2 λu' h3=>⟨_,rfl,ar _ _ ⟨?_,h3⟩⟩⟩
   ·simpa using fB
   ·have h4:=dQ (i+1)
    have h5:(((T.K p).take (i+1)).map λc=>cN T (p++[c])).sum=(((T.K p).take i).map λc=>cN T (p++[c])).sum+cN T (p++[(T.K p)[i]]):=by
     rw[dT hi,List.sum_append];simp
    have h6:=h.EH po
    have w1:IntKind.wrap .i64 ((((((T.K p).take i).map λc=>cN T (p++[c])).sum:Nat):Int)+1)=(((((T.K p).take i).map λc=>cN T (p++[c])).sum:Nat):Int)+1:=az (by omega) (by omega)
    rw[w1,az (by omega) (by omega)]
    omega
  ·rintro s u next ⟨rfl,h2⟩
   refine ab.f (by simp) ?_
   have:=hk u h2
   rw[List.take_length]
   rw[show cN T p-1=((T.K p).map λc=>cN T (p++[c])).sum from by omega]at this
   exact this
end
open K6
theorem qp{ps:List Prod}(hu:ca aI cM ps){q:Prod}(hq:q∈ps):ps.Perm (q::bq aI cM (cM q) ps):=by
 obtain⟨A,B,e,ed,_⟩:=hu.at_ aP hq
 rw[ed]
 conv=>lhs;rw[e]
 exact List.perm_middle
section
variable {n:Nat} {x:NC} {es:List af} {ms:dL} {ids:pt} {T:Tree} {tk:Path->List cf} {ct:Path->List Nat} {fr:Path->List cf} {mn:Path->List Nat} {ps:List Prod} {w:Nat} {W:Path->Prop}
theorem pd.drop(h:pd x T es ms ids tk ct ps w (λ_=>False)){q:Prod}(hq:q∈ps):pd x (T.ends q.conds (T.E q.conds-1)) es ms ids tk ct (bq aI cM (cM q) ps) w (λr=>r <+: q.conds):=by
 have mu:=qp h.si hq
 have eZ:∀r∈bq aI cM (cM q) ps,r∈ps:=λr hr=>((eF aP).1 hr).1
 refine⟨h.core.ends,λr hr AP hW=>?_,h.ids,h.root,h.tb,h.mb,h.si.del _,λr hr=>h.rE r (eZ r hr),λr hr=>h.pD r (eZ r hr),λr hr=>?_,h.tags,Nat.le_trans (List.length_filter_le _ _) h.xt,h.dl⟩
 ·have hW:¬r <+: q.conds:=hW
  have aT:r≠q.conds:=λe=>hW (by rw[e];exact List.prefix_refl _)
  show T.K r≠[]\/0<aQ T.E q.conds _ r
  rw[aX aT]
  exact h.uf r hr AP λh=>h
 ·show aQ T.E q.conds _ r=_
  have h1:=h.ends r hr
  rw[(mu.filter _).length_eq,List.filter_cons]at h1
  by_cases e:r=q.conds
  ·rw[if_pos (by simp[e]),List.length_cons]at h1
   rw[e]at h1 |-
   rw[cW,h1];rfl
  ·rw[if_neg (by simpa using λe'=>e e'.symm)]at h1
   rw[aX e,h1]
theorem DV(hw:w<=100)(s:ByteArray){L:List aY}{μ:Mem}(hO:Ow (bR n x es ps w::L) μ){K:Kq}
  (jw:∀q,aL aI cM s ps=some q->∀μ',Ow (bR n x es (bq aI cM s ps) w::L) μ'->K (pB true) μ')
  (EE:aL aI cM s ps=none->∀μ',Ow (bR n x es ps w::L) μ'->K (pB false) μ'):
  aa prog 34 [pP n 0,pS s] μ K:=by
 obtain⟨T,ms,ids,tk,ct,fr,mn,⟨hR,dQ⟩,h1⟩:=bR.open_ hO
 have aiH:=hR.xt
 refine kq.c ?_
 refine⟨_,aE (an.qz (x:=x) (es:=es) (ms:=ms) (ids:=ids) h1 (by simp)) (by simp),?_⟩
 refine RP.jA (Ow.at 2 rfl h1) hR.u (by rw[List.length_map];omega) s (λy u hy h2=>?_) (λu hy h2=>?_)
 ·rw[iL]at hy
  obtain⟨q,hq,rfl⟩:=Option.map_eq_some_iff.1 hy
  obtain⟨Dv,Qz⟩:=(aM aP hR.si).1 hq
  obtain⟨_,_,_,_,_,g1,g2⟩:=(hR.rE q Dv).facts
  have rR:=hR.pD q Dv
  have hE:=zO hR Dv
  have afG:T.E q.conds<=100:=by
   rw[hR.ends _ rR];exact Nat.le_trans (List.length_filter_le _ _) (by omega)
  obtain⟨w1,w2⟩:=tC T.B g1 (by omega)
  refine⟨_,_,_,_,_,_,_,_,rfl,ab.f rfl ⟨w2,_,w1,_,rfl,?_⟩⟩
  dsimp only[nP,nn,aF]
  have e1:bq RP.ck RP.key (RP.key (s,RP.z)) (ps.map (fZ T.B))=(bq aI cM s ps).map (fZ T.B):=sX
  rw[e1]at h2
  have h3:Ow (cb T tk ct fr mn::an n x es ms ids::RP.cU x.pr ((bq aI cM s ps).map (fZ T.B))::RT.At x.el es::L) u:=Ow.ord [2,1] h2
  obtain⟨A,B,F,eD,h4⟩:=cb.out rR h3
  refine⟨_,h4.rd 0 rfl (by simp),?_⟩
  refine h4.st 0 rfl (by simp) λu2 h5=>?_
  have RH:IntKind.wrap .i64 (((T.E q.conds:Nat):Int)-1)=((T.E q.conds-1:Nat):Int):=by rw[az (by omega) (by omega)];omega
  rw[RH]at h5
  have h6:=cb.ends hR.core.tree.nodup eD h5
  have TI:s=cM q:=Qz.symm
  have Ur:pd x (T.ends q.conds (T.E q.conds-1)) es ms ids tk ct (bq aI cM s ps) w (λr=>r <+: q.conds):=by rw[TI];exact hR.drop Dv
  refine Il q.conds (by omega) Ur.core rR Ur.uf Ur.root _ (Ow.swap h6) λT' We u5 hC3 hN3 Uw hE3 eZ oV h7=>⟨rfl,?_⟩
  refine jw q hq _ (bR.shut (fr:=fr) (mn:=mn) (Ur.Hp hC3 hN3 Uw hE3 eZ oV) ?_ ?_)
  ·have h8:=pX (es:=es) (qp hR.si Dv)
   rw[<- TI]at h8
   have h9:bK es (q::bq aI cM s ps)=(au es q.conds).length+bK es (bq aI cM s ps):=by unfold bK;simp
   omega
  ·show Ow (an n x es We ids::cb T' tk ct fr mn::RP.cU x.pr ((bq aI cM s ps).map (fZ T'.B))::RT.At x.el es::L) u5
   rw[Uw]
   exact h7
 ·rw[iL]at hy
  refine⟨_,_,_,_,_,_,_,_,rfl,ab.t rfl (EE ?_ u (bR.shut (fr:=fr) (mn:=mn) hR dQ (Ow.ord [1,1] h2)))⟩
  cases hg:aL aI cM s ps with
  |some z=>rw[hg]at hy;cases hy
  |none=>rfl
end
def cS(es:List af)(ps:List Prod):Nat:=bz (ps.flatMap λq=>jl es q.conds)
section
variable {n:Nat} {x:NC} {es:List af} {ps:List Prod} {w:Nat}
theorem pd.nB{ms:dL}{ids:pt}{T:Tree}{tk:Path->List cf}{ct:Path->List Nat}(h:pd x T es ms ids tk ct ps w (λ_=>False)):∀r,r∈T.D/\r≠[]↔r≠[]/\∃p∈ps,r <+: p.conds:=by
 have key:∀(m:Nat) (r:Path),r∈T.D->r≠[]->17-r.length<=m->∃p∈ps,r <+: p.conds:=by
  intro m
  induction m with
  |zero=>intro r hr _ hm;have:=h.core.tree.len r hr;omega
  |succ m ih=>
   intro r hr AP hm
   rcases h.uf r hr AP (λh=>h)with hk|he
   ·cases hK:T.K r with
    |nil=>exact absurd hK hk
    |cons d l=>
     have hd:r++[d]∈T.D:=(h.core.tree.kids r hr d).1 (by rw[hK];simp)
     obtain⟨p,hp,cZ⟩:=ih (r++[d]) hd (by simp) (by simp;omega)
     exact⟨p,hp,List.IsPrefix.trans (List.prefix_append _ _) cZ⟩
   ·rw[h.ends r hr]at he
    obtain⟨p,hp⟩:=List.exists_mem_of_length_pos he
    obtain⟨h1,h2⟩:=List.mem_filter.1 hp
    have h2:p.conds=r:=by simpa using h2
    exact⟨p,h1,by rw[h2];exact List.prefix_refl _⟩
 intro r
 constructor
 ·rintro⟨h1,h2⟩
  exact⟨h2,key 17 r h1 h2 (by omega)⟩
 ·rintro⟨h2,p,hp,cZ⟩
  exact⟨h.core.tree.xR (h.pD p hp) cZ,h2⟩
theorem mS{L:List aY}{μ:Mem}(hO:Ow (bR n x es ps w::L) μ){K:Kq}(hk:∀D:List Path,D.Nodup->(∀r,r∈D↔r≠[]/\∃p∈ps,r <+: p.conds)->∀μ',Ow (bR n x es ps w::L) μ'->K (pI ((D.length:Nat):Int)) μ'):aa prog 32 [pP n 0] μ K:=by
 obtain⟨T,ms,ids,tk,ct,fr,mn,⟨hR,dQ⟩,h1⟩:=bR.open_ hO
 have EY:=hR.core.tree.root
 refine ee.c ⟨_,aE (an.qz (x:=x) (es:=es) (ms:=ms) (ids:=ids) h1 (by simp)) (by simp),?_⟩
 rw[hR.root]
 refine wD hR.core.tree 17 [] EY (by simp) (Ow.ord [1] h1) λu h2=>⟨_,rfl,?_⟩
 have hlen:cN T []-1=(T.D.filter λr=>decide (r≠[])).length:=by
  rw[lp]
  obtain⟨A,B,e⟩:=List.append_of_mem EY
  rw[ni hR.core.tree e,e]
  simp
 rw[hlen]
 refine hk _ (hR.core.tree.nodup.filter _) (λr=>?_) u (bR.shut hR dQ (Ow.ord [1] h2))
 rw[<- hR.nB r,List.mem_filter]
 simp
theorem rf(hw:w<=1000){L:List aY}{μ:Mem}(hO:Ow (bR n x es ps w::L) μ){K:Kq}(hk:∀μ',Ow (bR n x es ps w::L) μ'->K (pI ((cS es ps:Nat):Int)) μ'):aa prog 49 [pP n 0] μ K:=by
 obtain⟨T,ms,ids,tk,ct,fr,mn,⟨hR,dQ⟩,h1⟩:=bR.open_ hO
 have ow:ps.length<=1000:=Nat.le_trans hR.xt hw
 refine eP.c λb3 DB=>?_
 refine(h1.new 3 [pI 0] DB).st 0 rfl (by simp) λu h=>?_
 refine⟨_,aE (an.qz (x:=x) (es:=es) (ms:=ms) (ids:=ids) h (by simp)) (by simp),(RP.o_ x.pr).call ⟨_,_,_,rfl,?_⟩⟩
 have nR:((ps.map (fZ T.B)).map λy=>[RP.db y.1,RP.gI y.2]).length=ps.length:=by simp
 refine bk.own (RP.fG x.pr (ps.map (fZ T.B)) (by simp;omega)) (Ow.at 3 rfl h)
  (λk u=>Ow (dc n x es ms ids T tk ct fr mn ps (Pt b3 3 [pI ((cS es (ps.take k):Nat):Int)]::L)) u) (λ_ _=>False) (λk=>fJ.own _) (λ_ _ _ _ h=>h.elim) (λμ' h'=>?_) ?_ ?_ (λ_ _ h=>h.elim)
 ·have h2:Ow (RP.cU x.pr (ps.map (fZ T.B))::Pt b3 3 [pI 0]::an n x es ms ids::cb T tk ct fr mn::RT.At x.el es::L) μ':=h'
  exact Ow.ord [2,2,0,1,0] h2
 ·rintro k fH u2 R h2 bU _
  have bW:k<ps.length:=by simpa using fH
  have hm:=List.getElem_mem bW
  have hD:=hR.pD _ hm
  obtain⟨_,_,_,_,_,g1,g2⟩:=(hR.rE _ hm).facts
  rw[List.getElem_map,List.getElem_map]
  refine⟨_,_,_,_,_,_,_,_,rfl,?_⟩
  have RG:((dE T.B ps[k].conds).map λb=>[pP b 0]).length=ps[k].conds.length:=by rw[List.length_map,dC]
  dsimp only[fZ]
  refine ak.each (n:=ps[k].conds.length) (by omega) (λi u=>Ow (dc n x es ms ids T tk ct fr mn ps (Pt b3 3 [pI ((max (cS es (ps.take k)) (bz ((List.range i).flatMap λi=>cQ es (ps[k].conds.take (i+1)))):Nat):Int)]::L)) u) ?_ ?_ ?_
  ·have:max (cS es (ps.take k)) (bz ((List.range 0).flatMap λi=>cQ es (ps[k].conds.take (i+1))))=cS es (ps.take k):=by simp[bz]
   rw[this];exact h2
  ·rintro i u3 next hi h3 ar
   have DE:ps[k].conds.take (i+1)∈T.D:=hR.core.tree.xR hD (List.take_prefix _ _)
   have ep:ps[k].conds.take (i+1)=ps[k].conds.take i++[ps[k].conds[i]]:=by rw[List.take_add_one,List.getElem?_eq_getElem hi];rfl
   obtain⟨F,hF⟩:=cb.rd DE (Ow.swap h3)
   refine ab.t (by simpa[dC]using hi) ⟨by omega,_,sg T.B _ hi,_,rfl,?_⟩
   dsimp only[nP,nn,aF]
   have XZ:ct (ps[k].conds.take (i+1))=cQ es (ps[k].conds.take (i+1)):=by
    rw[ep]at DE |-
    rw[hR.core.dH.EH _ _ DE,dY]
   have fB:aB u3 (T.B (ps[k].conds.take (i+1))) (0+10) 1=some [.list 1 F.k ((cQ es (ps[k].conds.take (i+1))).map jv)]:=by
    have:=aE (o:=0+10) (n:=1) hF (by simp)
    dsimp only[gK]at this
    rw[XZ]at this
    exact this
   refine⟨_,_,fB,?_⟩
   have iV:(cQ es (ps[k].conds.take (i+1))).length<=1000:=by
    rw[ep,dY]
    unfold je
    rw[List.length_map,List.length_range]
    rw[ep]at DE
    have:=(hR.core.tree.LB DE).2
    omega
   generalize mR:cQ es (ps[k].conds.take (i+1))=cs at*
   generalize hmx:max (cS es (ps.take k)) (bz ((List.range i).flatMap λi=>cQ es (ps[k].conds.take (i+1))))=mx at*
   refine ak.each (n:=cs.length) (by omega) (λj u=>Ow (dc n x es ms ids T tk ct fr mn ps (Pt b3 3 [pI ((max mx (bz (cs.take j)):Nat):Int)]::L)) u) ?_ ?_ ?_
   ·have:max mx (bz (cs.take 0))=mx:=by simp[bz]
    rw[this];exact h3
   ·rintro j u4 iJ hj h4 gu
    have eT:(cs.map jv)[Int.toNat (j:Int)]?=some [pI ((cs[j]:Nat):Int)]:=by
     rw[Int.toNat_natCast,List.getElem?_map,List.getElem?_eq_getElem hj];rfl
    refine ab.t (by simpa using hj) ⟨by omega,_,eT,_,rfl,_,h4.rd 4 rfl (by simp),?_⟩
    refine h4.st 4 rfl (by simp) λu5 h5=>gu _ ?_
    have e:dN [pI ((max mx (bz (cs.take j)):Nat):Int)] 0 [pI (if((cs[j]:Nat):Int)>((max mx (bz (cs.take j)):Nat):Int)then((cs[j]:Nat):Int)else((max mx (bz (cs.take j)):Nat):Int))]=[pI ((max mx (bz (cs.take (j+1))):Nat):Int)]:=by
     have e1:bz (cs.take (j+1))=max (bz (cs.take j)) cs[j]:=by
      rw[List.take_add_one,List.getElem?_eq_getElem hj,cl]
      show max _ (bz [cs[j]])=_
      rw[jZ]
     rw[e1]
     show[pI _]=_
     congr 2
     split<;>omega
    rw[e]at h5
    exact h5
   ·rintro u4 iJ h4
    rw[List.take_length]at h4
    refine ab.f (by simp) (ar _ ?_)
    have e:max (cS es (ps.take k)) (bz ((List.range (i+1)).flatMap λi=>cQ es (ps[k].conds.take (i+1))))=max mx (bz cs):=by
     rw[List.range_succ,List.flatMap_append,cl,<- hmx]
     simp only[List.flatMap_cons,List.flatMap_nil,List.append_nil,mR]
     omega
    rw[e];exact h4
  ·rintro u3 next h3
   refine ab.f (by simp[dC]) (bU _ ?_)
   have e:cS es (ps.take (k+1))=max (cS es (ps.take k)) (bz ((List.range ps[k].conds.length).flatMap λi=>cQ es (ps[k].conds.take (i+1)))):=by
    unfold cS
    rw[zL bW,cl];rfl
   rw[e];exact h3
 ·intro u2 h2
  rw[nR,List.take_length]at h2
  dsimp only[PK]
  refine⟨_,h2.rd 4 rfl (by simp),hk u2 (bR.shut (fr:=fr) (mn:=mn) hR dQ ?_)⟩
  exact h2.tail λ_ h=>h.tail λ_ h=>h.tail λ_ h=>h.tail λ_ h=>h.drop
end
theorem sH{α:Type}{a b:List α}(ha:a.Nodup)(hb:b.Nodup)(h:∀x,x∈a↔x∈b):a.length=b.length:=((List.perm_ext_iff_of_nodup ha hb).2 h).length_eq
theorem YG{es l fw RY:List af}(hu:ca aA aH es)(h1:oC es l [] fw)(h2:oC fw [] (l.map aH) RY)(Wk:∀e∈es,e.tag<1000)(hhi:∀e∈l,1000<=e.tag):RY=es:=by
 refine ca.ext ax h2.1 hu λe=>?_
 rw[h2.2,h1.2]
 constructor
 ·rintro(h|⟨h,hn⟩)
  ·cases h
  ·rcases h with h|⟨h,_⟩
   ·exact absurd (List.mem_map.2 ⟨e,h,rfl⟩) hn
   ·exact h
 ·intro h
  refine .inr ⟨.inr ⟨h,by simp⟩,λhm=>?_⟩
  obtain⟨y,hy,ht⟩:=List.mem_map.1 hm
  have a1:=Wk e h
  have a2:=hhi y hy
  have a3:y.tag=e.tag:=ht
  omega
theorem YF{ps:List Prod}(hu:ca aI cM ps){p:Prod}(hn:aL aI cM p.name ps=none):bq aI cM p.name (bc aI cM p ps)=ps:=by
 have cm:=(bx aP).1 hn
 refine ca.ext aP ((hu.ins aP p).del _) hu λq=>?_
 rw[eF aP,bj aP]
 constructor
 ·rintro⟨rfl|⟨h,_⟩,h2⟩
  ·exact absurd rfl h2
  ·exact h
 ·intro h
  exact⟨.inr ⟨h,cm q h⟩,cm q h⟩
theorem QL{ps:List Prod}(hu:ca aI cM ps)(p:Prod):aL aI cM p.name (bc aI cM p ps)=some p:=
 (aM aP (hu.ins aP p)).2 ⟨(bj aP).2 (.inl rfl),rfl⟩
theorem vz(f g:Fl)(l m:List Int)(hl:l.length<=1000000000):aZ 77 [.list 1 f (l.map gz),.list 1 g (m.map gz)] (l=m):=by
 refine ao.of (dK.c (ab.mk (λh=>aZ.no (i_ h)) (λh=>?_)))
 refine fE (l:=l) (m:=m) (n:=l.length) rfl (ix h) (by omega) (λk hk bW u next hy cm=>?_) (λu next e=>ab.f (by simp) (aZ.yes e))
 exact ab.t (by simpa using hk) ⟨by omega,_,aw hk,_,rfl,by omega,_,aw bW,_,rfl,ab.mk (λh=>aZ.no (cm λe=>by rw[e]at h;simp at h)) (λh=>hy (by simpa using h) _)⟩
theorem JS{a b:Mt}(h1:a.name=b.name)(h2:a.tags=b.tags):a=b:=by cases a;cases b;simp_all
theorem sw(f g:Fl)(l m:List Mt)(hl:l.length<=1000000000)(ht:∀x∈l,x.tags.length<=1000000000):aZ 29 [.list 2 f (l.map Mt.pv),.list 2 g (m.map Mt.pv)] (l=m):=by
 refine ao.of (eJ.c (ab.mk (λh=>aZ.no (i_ h)) (λh=>?_)))
 refine fE (l:=l) (m:=m) (n:=l.length) rfl (ix h) (by omega) (λk hk bW u next hy cm=>?_) (λu next e=>ab.f (by simp) (aZ.yes e))
 refine ab.t (by simpa using hk) ⟨by omega,_,aw hk,_,rfl,by omega,_,aw bW,_,rfl,ab.mk (λh=>aZ.no (cm λe=>?_)) (λh=>⟨by omega,_,aw hk,_,_,rfl,by omega,_,aw bW,_,_,rfl,?_⟩)⟩
 ·rw[e,dX]at h;cases h
 ·have hn:l[k].name=m[k].name:=bI.1 (nt h)
  exact(vz .sh .sh _ _ (ht _ (List.getElem_mem hk))).call (λe=>⟨_,rfl,ab.f rfl (hy (JS hn e) _)⟩) (λaT=>⟨_,rfl,ab.t rfl (aZ.no (cm λe=>aT (by rw[e])))⟩)
theorem qS{p:Prod}(h:lb p):kO p:=⟨h.1,by have:=h.2.1;omega,by have:=h.2.2.1;omega⟩
theorem iz(f:Fl)(ps:List Prod)(n:Nat)(hn:n<=1000000):ao prog 30 [.list 3 f (ps.map Prod.pv),pI (n:Nat)] λv=>∃q:Bool,v=pB q/\(q=false->ps.length<=n/\∀p∈ps,kO p):=by
 refine ao.of (cG.c (ab.mk (λ_=>⟨true,rfl,λh=>by cases h⟩) (λh=>?_)))
 have hl:ps.length<=n:=by simpa using h
 refine ak.each (n:=ps.length) (by omega) (λk _=>∀p∈ps.take k,kO p) (by simp) (λk u next hk hI ar=>?_) (λu next hI=>ab.f (by simp) ⟨false,rfl,λ_=>⟨hl,by rwa [List.take_length]at hI⟩⟩)
 refine ab.t (by simpa using hk) ⟨by omega,_,aw hk,_,_,_,_,_,rfl,(wy .sh .sh ps[k]).call ?_⟩
 rintro _ ⟨q,rfl,hq⟩
 refine⟨_,rfl,ab.mk (λ_=>⟨true,rfl,λh=>by cases h⟩) (λhf=>ar _ λp hp=>?_)⟩
 rcases(dg hk).1 hp with hp|rfl
 ·exact hI p hp
 ·exact qS (hq hf)
theorem td(f1 f2:Fl)(ps:List Prod)(es:List af):ao prog 36 [.list 3 f1 (ps.map Prod.pv),.list 12 f2 (es.map af.pv)] λv=>∃q:Bool,v=pB q/\(q=true->oR ps 6/\es.length<=30):=by
 refine ao.of (eW.c ?_)
 refine(iz f1 ps 6 (by omega)).call ?_
 rintro _ ⟨q,rfl,hq⟩
 refine⟨_,rfl,ab.mk (λhf=>?_) (λ_=>⟨false,rfl,λh=>by cases h⟩)⟩
 refine(lE f2 es 30 (by omega)).call ?_
 rintro _ ⟨q2,rfl,Gr⟩
 exact⟨_,rfl,_,rfl,λht=>⟨hq (nb hf),Gr ht⟩⟩
set_option maxRecDepth 100000
section
variable {w:World}
theorem jq:prog.cellsOf 78=12:=by kernel_rfl
theorem ph(n:Nat)(cs:List Value)(h:Reads prog w n 78 cs):∃s:af,bF (gA w) s.pv cs/\True:=by
 obtain⟨m,rfl,hl,hf⟩:=h.struct underlying78
 rw[jq]at hl
 obtain⟨a,e0,_⟩:=kN _ _ (dR hf 0 0 jS rfl rfl rfl)
 obtain⟨b,e1,_⟩:=kN _ _ (dR hf 1 3 jS rfl rfl rfl)
 obtain⟨c,e2,_⟩:=kN _ _ (dR hf 2 6 jS rfl rfl rfl)
 obtain⟨i3,e3⟩:=(dR hf 3 9 lV rfl rfl rfl).pbool underlying4
 obtain⟨i4,e4⟩:=(dR hf 4 10 lV rfl rfl rfl).pbool underlying4
 obtain⟨i5,e5,_⟩:=(dR hf 5 11 sk rfl rfl rfl).CQ underlying3
 match cs,hl with
 |[x0,x1,x2,x3,x4,x5,x6,x7,x8,x9,Y_,x11],_=>exact⟨⟨a,b,c,_,_,_⟩,((((e0.append e1).append e2).append e3).append e4).append e5,trivial⟩
end
theorem bR.facts{n:Nat}{x:NC}{es:List af}{ps:List Prod}{w:Nat}{L:List aY}{μ:Mem}(h:Ow (bR n x es ps w::L) μ):((bK es ps:Nat):Int)<=x.M/\x.M<=1024/\ca aA aH es/\ca aI cM ps/\(∀q∈ps,l_ q)/\ps.length<=w:=by
 obtain⟨_,_,_,_,_,_,_,⟨hR,hs⟩,_⟩:=bR.open_ h
 exact⟨hs,hR.mb.2,hR.core.use.inv.ua,hR.si,hR.rE,hR.xt⟩
theorem iq{es:List af}(hn:xu es)(p:Prod):(eB es p).length=(au es p.conds).length:=by unfold eB;rw[List.length_map,gQ (dv hn _)]
theorem ko{es:List af}(hn:xu es)(ps:List Prod):(allM es ps).length=bK es ps:=by
 unfold allM bK
 rw[List.length_flatMap]
 congr 1
 exact List.map_congr_left λp _=>iq hn p
theorem la{es:List af}(hn:xu es){p:Prod}(hp:l_ p):∀m∈eB es p,m.tags.length<=1000:=by
 intro m hm
 obtain⟨t,ht,rfl⟩:=List.mem_map.1 hm
 have ht:=((fQ (dv hn p.conds)).2 t).1 ht
 rw[<- gC]at ht
 obtain⟨q,hq,rfl⟩:=List.mem_map.1 ht
 have h1:=jC (es:=es) (l:=p.conds) (ts:=[ub]) (m:=0) (by simp[ub]) q hq
 obtain⟨_,_,_,g4,_⟩:=hp.facts
 have:=ch p.conds
 show q.tags.length<=1000
 omega
theorem Ac{es:List af}(hn:xu es){ps:List Prod}(hp:∀q∈ps,l_ q):∀m∈allM es ps,m.tags.length<=1000000000:=by
 intro m hm
 obtain⟨p,h1,h2⟩:=List.mem_flatMap.1 hm
 have:=la hn (hp p h1) m h2
 omega
section
variable {n:Nat} {x:NC} {es:List af} {ps:List Prod} {w:Nat}
theorem Bk(hw:w<=1000){L:List aY}{μ:Mem}(hO:Ow (bR n x es ps w::L) μ){F:Kq}(hk:∀f μ',Ow (bR n x es ps w::L) μ'->F (.list 2 f ((allM es ps).map Mt.pv)) μ'):aa prog 23 [JH n] μ F:=by
 obtain⟨h1,h2,h3,_⟩:=bR.facts hO
 exact zW (l:=allM es ps) (BP hw) (by rw[ko (kM h3)];omega) hO hk
theorem SO(f g:Fl){L:List aY}{μ:Mem}(hO:Ow (bR n x es ps w::L) μ){l:List Mt}(e:allM es ps=l){F:Kq}(hF:F (pB true) μ):aa prog 29 [.list 2 f ((allM es ps).map Mt.pv),.list 2 g (l.map Mt.pv)] μ F:=by
 obtain⟨h1,h2,h3,_,h5,_⟩:=bR.facts hO
 have hl:=ko (kM h3) ps
 exact(sw f g _ _ (by omega) (Ac (kM h3) h5)).call (λ_=>hF) (λaT=>absurd e aT)
end
def tgE(es:List af)(i:Nat):af:={(es[i]?.getD ⟨⟨0,⟨#[]⟩,0⟩,⟨0,⟨#[]⟩,0⟩,⟨0,⟨#[]⟩,0⟩,false,false,0⟩)with tag:=((1000+i:Nat):Int)}
theorem aaz{es:List af}{i:Nat}(h:i<es.length):(tgE es i).pv=[pI es[i].id.k,pS es[i].id.t,pI es[i].id.n,pI es[i].attr.k,pS es[i].attr.t,pI es[i].attr.n,pI es[i].value.k,pS es[i].value.t,pI es[i].value.n,pB es[i].acc,pB es[i].goal,pI ((1000+i:Nat):Int)]:=by
 unfold tgE;rw[List.getElem?_eq_getElem h];rfl
def RC(es:List af)(k:Nat):List af:=(List.range k).map (tgE es)
theorem Ji(es:List af)(k:Nat):RC es (k+1)=RC es k++[tgE es k]:=by unfold RC;rw[List.range_succ,List.map_append];rfl
theorem Sj(es:List af)(k:Nat):∀e∈RC es k,(1000:Int)<=e.tag/\e.tag<1000+k:=by
 intro e he
 obtain⟨i,hi,rfl⟩:=List.mem_map.1 he
 have:=List.mem_range.1 hi
 show(1000:Int)<=((1000+i:Nat):Int)/\((1000+i:Nat):Int)<1000+k
 omega
theorem iA.zero{B M:Int}{es:List af}{ps:List Prod}{add:List af}{drop:List Int}{kA:List af}(h:iA B M es ps add drop 0 kA):oC es add drop kA:=by
 cases h with
 |ok _ _ _ _ h4=>exact h4
theorem iA.de{B M:Int}{es:List af}{ps:List Prod}{add:List af}{drop:List Int}{e:Int}{kA:List af}(h:iA B M es ps add drop e kA)(he:e≠0):kA=es:=by
 cases h with
 |ok=>exact absurd rfl he
 |_=>rfl
theorem mj.zero{B M:Int}{es:List af}{ps:List Prod}{p:Prod}{qJ:List Prod}(h:mj B M es ps p 0 qJ):aL aI cM p.name ps=none/\qJ=bc aI cM p ps:=by
 generalize he:(0:Int)=e at h
 cases h with
 |form h=>exact absurd he.symm h
 |ok _ h2=>exact⟨h2,rfl⟩
 |_=>omega
theorem mj.de{B M:Int}{es:List af}{ps:List Prod}{p:Prod}{e:Int}{qJ:List Prod}(h:mj B M es ps p e qJ)(he:e≠0):qJ=ps:=by
 cases h with
 |ok=>exact absurd rfl he
 |_=>rfl
theorem Rb(ps:List Prod)(_:(∀s∈ps,True)/\ps.length<=maxLen)(es:List af)(_:(∀s∈es,True)/\es.length<=maxLen)(more:List af)(_:(∀s∈more,True)/\more.length<=maxLen)(p:Prod):Pure prog 13 [.list 3 .sh (ps.map Prod.pv),.list 12 .sh (es.map af.pv),.list 12 .sh (more.map af.pv),.agg p.pv] (pB true):=by
 refine ao.of (ru.c ?_)
 refine⟨λs u=>s=false->oR ps 6/\es.length<=30/\more.length<=20/\lb p,?_,?_⟩
 ·refine(td .sh .sh ps es).call ?_
  rintro _ ⟨q,rfl,hq⟩
  refine⟨_,rfl,ab.mk (λh h'=>by cases h') (λh=>?_)⟩
  refine(lE .sh more 20 (by omega)).call ?_
  rintro _ ⟨q2,rfl,Gr⟩
  refine⟨_,rfl,ab.mk (λh h'=>by cases h') (λh2=>?_)⟩
  refine(wy .sh .sh p).call ?_
  rintro _ ⟨q3,rfl,Dw⟩
  exact⟨_,rfl,λh3=>⟨(hq (nt h)).1,(hq (nt h)).2,Gr (nt h2),Dw h3⟩⟩
 rintro b u hs
 refine ab.mk (λ_=>dS u) (λhf=>?_)
 obtain⟨hp,he,hmo,RQ⟩:=hs hf
 obtain⟨q1,q2,q3,q4⟩:=RQ
 refine tU .sh .sh (by omega) hp es (by omega) (L:=[]) trivial λn r x fw fW y u1 hT hM ht IY eZ hb h1=>⟨_,_,rfl,ab.f rfl ?_⟩
 refine(DW n).call ⟨_,_,_,rfl,Bk (by omega) h1 λf u2 h2=>⟨_,_,rfl,?_⟩⟩
 refine mS h2 λD d1 d2 u3 h3=>⟨_,rfl,rf (by omega) h3 λu4 h4=>⟨_,rfl,?_⟩⟩
 obtain⟨_,_,hu,IV,_,_⟩:=bR.facts h4
 refine ak.UI (n:=more.length) (by omega) (λi s t u=>s.2=(RC more i).map af.pv/\t.2=((RC more i).map aH).map gz/\Ow (eH s.1 i 12::eH t.1 i 1::bR n x fw fW 20::aW r y::[]) u) ⟨rfl,rfl,(h4.nil (.inl rfl)).nil (.inl rfl)⟩ ?_ ?_
 ·rintro i ⟨f1,_⟩ ⟨f2,_⟩ u5 next hi ⟨rfl,rfl,h5⟩ ar
  dsimp only at h5 |-
  have ew:IntKind.wrap .i64 (1000+((i:Nat):Int))=((1000+i:Nat):Int):=by rw[az (by omega) (by omega)];omega
  refine ab.t (by simpa using hi) ⟨by omega,_,aw hi,_,_,_,_,_,_,_,_,_,_,_,_,rfl,?_⟩
  rw[ew]
  have hl:(RC more i).length=i:=by unfold RC;rw[List.length_map,List.length_range]
  refine h5.app (by rw[List.length_map,hl]) (by simp;omega) (by simp;omega) λf3 u6 h6=>?_
  refine(Ow.swap h6).app (by rw[List.length_map,List.length_map,hl]) (by simp;omega) (by simp;omega) λf4 u7 h7=>ar _ _ _ ⟨?_,?_,Ow.swap h7⟩
  ·rw[Ji,List.map_append,List.map_singleton,aaz hi]
  ·rw[Ji,List.map_append,List.map_append];rfl
 rintro⟨f1,_⟩ ⟨f2,_⟩ u5 next ⟨rfl,rfl,h5⟩
 dsimp only at h5 |-
 have hl:(RC more more.length).length=more.length:=by unfold RC;rw[List.length_map,List.length_range]
 have htg:=Sj more more.length
 refine ab.f (by simp) ⟨λ_ u=>∃w,w<=100/\Ow (bR n x fw fW w::aW r y::[]) u,?_,?_⟩
 ·refine kj (by omega) f1 .nil (RC more more.length) [] (by omega) (by simp) (by omega) (λe he=>by have:=htg e he;omega) h5.drop.drop λe RY u6 hc h6=>⟨_,rfl,ab.mk (λh0=>?_) (λh0=>⟨20,by omega,?_⟩)⟩
  ·have h0:e=0:=by simpa using h0
   subst h0
   have Zz:=hc.zero
   refine⟨λ_ u=>∃w,w<=100/\Ow (bR n x RY fW w::aW r y::[]) u,?_,?_⟩
   ·refine GM (by omega) .sh .sh p q1 (by omega) (by omega) h6 λe' ps2 u7 ha h7=>⟨_,rfl,ab.mk (λh0=>?_) (λh0=>⟨21,by omega,?_⟩)⟩
    ·have h0:e'=0:=by simpa using h0
     subst h0
     obtain⟨a1,rfl⟩:=ha.zero
     refine DV (by omega) p.name h7 (λq hq u8 h8=>⟨_,rfl,ab.f rfl ⟨21,by omega,?_⟩⟩) (λcm=>by rw[QL IV]at cm;cases cm)
     rw[YF IV a1]at h8
     exact h8
    ·rw[ha.de (by simpa using h0)]at h7
     exact h7
   ·rintro _ u7 ⟨w,hw,h7⟩
    refine kj hw .nil f2 [] ((RC more more.length).map aH) (by simp) (by rw[List.length_map];omega) ?_ (by simp) h7 λe3 es3 u8 hc3 h8=>⟨_,rfl,ab.mk (λ_=>dS _) (λh0=>⟨w,hw,?_⟩)⟩
    ·have:=hc.len hu
     simp only[List.length_nil]
     omega
    ·have h0:e3=0:=by simpa using h0
     subst h0
     rw[YG hu Zz hc3.zero (λe he=>by have:=ht e he;omega) (λe he=>(htg e he).1)]at h8
     exact h8
  ·rw[hc.de (by simpa using h0)]at h6
   exact h6
 ·rintro _ u6 ⟨w,hw,h6⟩
  have heq:∀e:Int,((e == e):Bool)=true:=λe=>by simp
  refine(DW n).call ⟨_,_,_,rfl,Bk (by omega) h6 λf' u7 h7=>⟨_,_,rfl,SO f' f h7 rfl ⟨_,rfl,ab.t rfl ?_⟩⟩⟩
  refine mS h7 λD' d1' d2' u8 h8=>⟨_,rfl,ab.t ?_ (rf (by omega) h8 λu9 h9=>⟨_,rfl,ab.t (heq _) (dS _)⟩)⟩
  have:D'.length=D.length:=sH d1' d1 λq=>by rw[d2,d2']
  rw[this];exact heq _
open Go.ChangeShapes Go.WideShapes Go.ChangeAt
set_option maxRecDepth 100000 in
theorem ReteBack.lifted(os:Os)(started:os.Started)(H:Type)(enc:TypeId×Value->H):
  ReturnsInHanded {} Tryz.checked os 13 .any (Rows.reteBackSpec.pre6 enc prog f13 Rows.reteBackRow.domain false) (Rows.reteBackSpec.post enc prog f13 false true false false):=by
 refine returnsInHanded_of_change (C:=Tryz.checked) qK started (by kernel_rfl) func13
  (ChangeSpec.witness6 (enc:=enc) (C:=Tryz.checked) false ⟨#[],#[.slice none 0 0,.slice none 0 0,.slice none 0 0,.agg #[.string ByteArray.empty,.slice none 0 0,.slice none 0 0]],[]⟩ 12 (by kernel_rfl) (by kernel_rfl) (by kernel_rfl) (by kernel_rfl)) ?_
 intro W base args ds gs before jH hW QG _
 have gU:∀(j:Nat) t v,f13.params[j]?=some t->args[j]?=some v->Value.okWide prog W .any base t v:=jH
 have QI:=hW
 obtain⟨p,q,Gv,hV,rfl,ZM,Bv⟩:=hW
 have hA:DataW.TrodAll enc prog W 0 (λ_=>true) true f13.params.toList args.toList ds p:=Gv
 rw[params13]at hA gU
 obtain⟨v0,vs0,d0,ds0,p0,q0,AW,rfl,rfl,h0,r0⟩:=trodAll_cons hA
 obtain⟨v1,WA,d1,ds1,p1,q1,rfl,rfl,rfl,h1,r1⟩:=trodAll_cons r0
 obtain⟨v2,vs2,d2,ds2,p2,q2,rfl,rfl,rfl,h2,r2⟩:=trodAll_cons r1
 obtain⟨v3,vs3,d3,ds3,p3,q3,rfl,rfl,rfl,h3,r3⟩:=trodAll_cons r2
 obtain⟨rfl,rfl,rfl⟩:=trodAll_nil r3
 obtain rfl:args= #[v0,v1,v2,v3]:=by cases args;simp_all
 obtain⟨rfl,rfl⟩:=trodVars_none hV
 have Qq:∀x∈p0,x.block<W.heap.size:=by obtain⟨m,hm⟩:=h0;exact DataW.trod_lt m _ _ _ hm
 obtain⟨a0,e0,w0⟩:=iY underlying43 Cm (by omega) vv (gU 0 43 v0 rfl rfl) h0
 have Qp:∀x∈p1,x.block<W.heap.size:=by obtain⟨m,hm⟩:=h1;exact DataW.trod_lt m _ _ _ hm
 obtain⟨a1,e1,w1⟩:=iY underlying29 jq (by omega) ph (gU 1 29 v1 rfl rfl) h1
 have Tm:∀x∈p2,x.block<W.heap.size:=by obtain⟨m,hm⟩:=h2;exact DataW.trod_lt m _ _ _ hm
 obtain⟨a2,e2,w2⟩:=iY underlying29 jq (by omega) ph (gU 2 29 v2 rfl rfl) h2
 have lt3:∀x∈p3,x.block<W.heap.size:=by obtain⟨m,hm⟩:=h3;exact DataW.trod_lt m _ _ _ hm
 obtain⟨a3,e3,w3⟩:=qL underlying25 vv (gU 3 25 v3 rfl rfl) h3
 clear Gv jH
 refine(ao.calls (vs:=[v0,v1,v2,v3]) (Rb a0 w0 a1 w1 a2 w2 a3) (bf.cons rfl e0 (bf.cons rfl e1 (bf.cons rfl e2 (bf.cons rfl e3 (bf.nil _)))))).mono λe W' ⟨⟨v,x,Z,he,hr,hx⟩,tj⟩=>?_
 subst hx;subst he;rw[hr.ofRaw.1]
 exact⟨_,rfl,_,_,_,[],_,[],QI,trodAll_mk1 (shut_bool underlying4 _),(trodAll_cons_mk (Below.trod dj (by kernel_rfl) (of_decide_eq_true (by kernel_rfl)) h0 tj Qq) (trodAll_cons_mk (Below.trod dj (by kernel_rfl) (of_decide_eq_true (by kernel_rfl)) h1 tj Qp) (trodAll_cons_mk (Below.trod dj (by kernel_rfl) (of_decide_eq_true (by kernel_rfl)) h2 tj Tm) (trodAll_cons_mk (Below.trod dj (by kernel_rfl) (of_decide_eq_true (by kernel_rfl)) h3 tj lt3) trodAll_mk0)))),rfl,tj.frame _,λh=>by cases h⟩
theorem and2{a b:Bool}(h:a=true)(k:b=true):(a&&b)=true:=by rw[h,k];rfl
set_option maxHeartbeats 0 in
theorem ReteBack.closed:joinedFacts Tryz.checked.prog 13 f13 Rows.reteBackSpec Rows.reteBackRow=true:=by
 unfold joinedFacts
 repeat' with_reducible apply and2
 all_goals (as_aux_lemma=>kernel_rfl)
theorem ReteBack.proved:Rows.ReteBackSaid:=
 OpenClaim.holds_of_wide 13 f13 rfl rfl rfl rfl rfl rfl rfl ⟨rfl,rfl,rfl,rfl,rfl⟩ rfl rfl rfl rfl rfl (by kernel_rfl) func13 ReteBack.closed
  (of_decide_eq_true (by kernel_rfl)) (by unfold Func.isWrapper;first|(rw[if_pos (by decide +kernel)];kernel_rfl)|(rw[if_neg (by decide +kernel)];exact⟨rfl,rfl⟩))
  (λos started H enc _=>ReteBack.lifted os started H enc)
end Go.Proofs.YtbodiiomcfgokaaGreat
