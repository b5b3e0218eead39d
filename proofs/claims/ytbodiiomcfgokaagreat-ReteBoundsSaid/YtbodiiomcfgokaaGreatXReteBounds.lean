/- What is proved: the statement ReteBounds, as it is given, for every input that it speaks of. Conditions: none. -/
import Derived.Test.YtbodiiomcfgokaaGreatB14
import Derived.Test.YtbodiiomcfgokaaGreatChecked
import Derived.KernelRfl
import Derived.ChangeArms
import Derived.WideShapes
import Derived.DataReads
import Derived.WalkKit
import Derived.ProofKit
import Derived.OpenShut
import Derived.ShutString
import Derived.ChangeOld
import Derived.Below
set_option linter.all false
namespace Go.Proofs.YtbodiiomcfgokaaGreat
open Go.Proofs.Tryz Go.aK
variable {u0:Mem} {K:Kq}
set_option maxRecDepth 100000
theorem pH.c{A B C:Int}(h: aa prog 31 [pI A,pI 60] u0 λd5 c1=> ∃k,d5=(pI k)/\ aa prog 31 [pI B,pI 12] c1 λd6 c2=> ∃n,d6=(pI n)/\ aa prog 31 [pI C,pI 3] c2 λe7 c7=> ∃o,e7=(pI o)/\ aa prog 52 [pI (IntKind.wrap .i64 (1+k)),pI 1000] c7 λf3 m=> ∃d a8,f3=(.aD [pA d,pI a8])/\ ab (a8 != 0) (K (pB false) m) (ab (Option.isNone d) (K (pB false) m) (aa prog 53 [pS ⟨#[122]⟩] m λf4 d2=> ∃a9 b0 b1,f4=(.agg [pI a9,pS b0,pI b1])/\ ak (α:=(ByteArray×(Fl×Lq)×(Fl×Lq))×Int) (λb8 a j=> ab (decide (a.2<(IntKind.wrap .i64 (1+o)))) (dz prog 53 [pS ⟨#[120]⟩] j λf5 P=> ∃b2 b3 b4,f5=(.agg [pI b2,pS b3,pI b4])/\ dz prog 54 [pS ⟨#[]⟩,.agg [pI b2,pS b3,pI b4]] (Mem.or j P) λf6 d3=> ∃g2 p,f6=(.list 6 g2 p)/\ aV false 7 112 a.1.2.1.1 a.1.2.1.2 [[pI 1,pB true,pS ⟨#[115]⟩,.list 6 .sh p,.list 6 .sh [],pB false,.list 7 .sh []]] (Mem.or (Mem.or j P) d3) λb6 d4=> b8 ((a.1.1,(b6,(a.1.2.1.2++[[pI 1,pB true,pS ⟨#[115]⟩,.list 6 .sh p,.list 6 .sh [],pB false,.list 7 .sh []]])),(a.1.2.2.1,a.1.2.2.2)),(IntKind.wrap .i64 (a.2+1))) d4) (ak (α:=(Fl×Lq)×Int) (λb9 b Q=> ab (decide (b.2<n)) (aa prog 55 [pS ⟨#[83]⟩,pI 1] Q λf7 c3=> ∃q r s,f7=(.agg [pI q,pS r,pI s])/\ aa prog 53 [pS ⟨#[120]⟩] c3 λf8 c4=> ∃t u v,f8=(.agg [pI t,pS u,pI v])/\ aa prog 56 [pI b.2] c4 λf9 c5=> ∃w x y,f9=(.agg [pI w,pS x,pI y])/\ aV false 12 112 b.1.1 b.1.2 [[pI q,pS r,pI s,pI t,pS u,pI v,pI w,pS x,pI y,pB false,pB true,pI (IntKind.wrap .i64 (b.2+1))]] c5 λb7 c6=> b9 ((b7,(b.1.2++[[pI q,pS r,pI s,pI t,pS u,pI v,pI w,pS x,pI y,pB false,pB true,pI (IntKind.wrap .i64 (b.2+1))]])),(IntKind.wrap .i64 (b.2+1))) c6) (ak (α:=Int×Int) (λc0 e D=> ab (decide (e.2<(IntKind.wrap .i64 (1+o)))) (c0 ((IntKind.wrap .i64 (e.1*n)),(IntKind.wrap .i64 (e.2+1))) D) (aa prog 39 [pA d,.list 12 b.1.1 b.1.2,.list 1 .nil []] D λd7 E=> ∃b5,d7=(pI b5)/\ ab (b5 != 0) (K (pB false) E) (aa prog 41 [pA d,.agg [pS a.1.1,.list 7 .sh a.1.2.1.2,.list 19 .sh a.1.2.2.2]] E λd8 i=> ∃g,d8=(pI g)/\ bZ (α:=Unit) (λz=> ab (!((g == 0) == (decide (e.1<=(IntKind.wrap .i64 (1+k)))))) (K (pB false) i) (ab (g != 0) (ab (g != 25) (K (pB false) i) (aa prog 57 [pA d] i λd9 G=> ∃R,d9=(pI R)/\ ab (R != 0) (K (pB false) G) (aa prog 32 [pA d] G λe0 H=> ∃S,e0=(pI S)/\ ab (S != 0) (K (pB false) H) (z () H)))) (z () i))) (λg3 F=> ab (g == 0) (aa prog 49 [pA d] F λe1 I=> ∃T,e1=(pI T)/\ ab (T == e.1) (aa prog 58 [pA d] I λe2 c8=> ∃U V W,e2=(.fn U V W)/\ aa prog 23 [.fn U V W] c8 λe3 J=> ∃g0 X,e3=(.list 2 g0 X)/\ ab (((List.length X:Nat):Int) == e.1) (aa prog 19 [] J λe4 c9=> ∃Y,e4=(pB Y)/\ K (pB Y) c9) (K (pB false) J)) (K (pB false) I)) (aa prog 52 [pI (IntKind.wrap .i64 (1+k)),pI 1000] F λe5 l=> ∃f Z,e5=(.aD [pA f,pI Z])/\ ab (Z != 0) (K (pB false) l) (ab (Option.isNone f) (K (pB false) l) (aa prog 41 [pA f,.agg [pS a.1.1,.list 7 .sh a.1.2.1.2,.list 19 .sh a.1.2.2.2]] l λe6 L=> ∃a0,e6=(pI a0)/\ ab (a0 != 0) (K (pB false) L) (aa prog 39 [pA f,.list 12 b.1.1 b.1.2,.list 1 .nil []] L λe8 M=> ∃a1,e8=(pI a1)/\ ab (a1 == 25) (aa prog 58 [pA f] M λe9 d0=> ∃a2 a3 a4,e9=(.fn a2 a3 a4)/\ aa prog 23 [.fn a2 a3 a4] d0 λf0 N=> ∃g1 a5,f0=(.list 2 g1 a5)/\ ab (((List.length a5:Nat):Int) == 0) (aa prog 39 [pA f,.list 12 .nil [],.list 1 .nr [[pI 1]]] N λf1 O=> ∃a6,f1=(pI a6)/\ ab (a6 == 4) (aa prog 19 [] O λf2 d1=> ∃a7,f2=(pB a7)/\ K (pB a7) d1) (K (pB false) O)) (K (pB false) N)) (K (pB false) M))))))))) (1,0) Q)) ((.nil,[]),0) j)) ((⟨#[97]⟩,(.nil,[]),(.nr,[[pS ⟨#[115]⟩,pS ⟨#[]⟩,pI a9,pS b0,pI b1,pI 0,pS ⟨#[115]⟩,pI 0,pS ⟨#[]⟩,pI 0,pS ⟨#[]⟩,pI 0,pS ⟨#[]⟩,pI 0,pI 1,pS ⟨#[]⟩,pI 0,pS ⟨#[]⟩,pI 0]])),0) d2))):aa prog 10 [pI A,pI B,pI C] u0 K:= VC [9] [(9,⟨[(9,.box [.raw .str,.list 7,.list 19]),(10,.one (.raw (.int .i64)))],[]⟩),(14,⟨[(11,.one (.list 12)),(12,.one (.raw (.int .i64)))],[]⟩),(19,⟨[(13,.one (.raw (.int .i64))),(14,.one (.raw (.int .i64)))],[]⟩)] [(27,⟨[],[]⟩)] [] [] [] [] func10 h
theorem eX.c{b a:Int}(h: ab (decide (a<1)) (K (pI 0) u0) ((a:Int)≠0/\ ab (decide (((Int.tmod b a):Int)<0)) (K (pI (IntKind.wrap .i64 ((Int.tmod b a)+a))) u0) (K (pI (Int.tmod b a)) u0))):aa prog 31 [pI b,pI a] u0 K:= VC [] [] [] [] [] [] [] func31 h
theorem ee.c{a:Option Addr}(h: nP a λe f=> ∃b,aB u0 e (f+2) 1=some [pA b]/\ aa prog 82 [pA b] u0 λi g=> ∃d,i=(pI d)/\ K (pI d) g):aa prog 32 [pA a] u0 K:= VC [] [] [] [] [] [] [] func32 h
theorem eP.c{l:Option Addr}(h: bJ u0 3 [pI 0] λa E=> stM a 0 [pI 0] E λo=> nP l λx B=> ∃q,aB o x (B+6) 1=some [pA q]/\ aa prog 89 [pA q] o λI F=> ∃r s t,I=(.fn r s t)/\ bk prog (.fn r s t) (λJ w G=> ∃L M O N Q P R g,J=[pS L,.agg [pS M,.list 7 O N,.list 19 Q P,.list 1 R g]]/\ ak (α:=Int) (λz b e=> ab (decide (b<((List.length g:Nat):Int))) (0<=b/\∃(m:List PV),(g)[Int.toNat b]?=some m/\ ∃u,ay m 0 1=some [pA u]/\ nP u λy C=> ∃S i,aB e y (C+10) 1=some [.list 1 S i]/\ ak (α:=Int) (λA d f=> ab (decide (d<((List.length i:Nat):Int))) (0<=d/\∃(n:List PV),(i)[Int.toNat d]?=some n/\ ∃j,ay n 0 1=some [pI j]/\ ∃k,aB f a 0 1=some [pI k]/\ stM a 0 [pI (if j>k then j else k)] f λH=> A (IntKind.wrap .i64 (d+1)) H) (z (IntKind.wrap .i64 (b+1)) f)) (0) e) (w none e)) (0) G) (λD p=> PK D (∃v,aB p a 0 1=some [pI v]/\ K (pI v) p) (False) []) F):aa prog 49 [pA l] u0 K:= VC [5] [(5,⟨[(20,.one (.raw (.int .i64)))],[]⟩),(8,⟨[(29,.one (.raw (.int .i64)))],[]⟩)] [] [(15,[139,129])] [] [] [] func49 h
theorem Ev.c{a:Option Addr}(h: nP a λe f=> ∃b,aB u0 e (f+6) 1=some [pA b]/\ aa prog 119 [pA b] u0 λi g=> ∃d,i=(pI d)/\ K (pI d) g):aa prog 57 [pA a] u0 K:= VC [] [] [] [] [] [] [] func57 h
theorem gJ.c{e:Option Addr}(h: nP e λj m=> ∃i d q,aB u0 j (m+7) 1=some [pV i d q]/\ ak (α:=Int×Int) (λl a b=> ab (decide (a.2<((d:Nat):Int))) (cK i λk n=> 0<=a.2/\a.2<((d:Nat):Int)/\ ∃f,aB b k (n+Int.toNat a.2*1) 1=some [pA f]/\ aa prog 82 [pA f] b λp o=> ∃g,p=(pI g)/\ l ((IntKind.wrap .i64 ((IntKind.wrap .i64 (a.1+1))+g)),(IntKind.wrap .i64 (a.2+1))) o) (K (pI a.1) b)) (0,0) u0):aa prog 82 [pA e] u0 K:= VC [] [(3,⟨[(3,.one (.raw (.int .i64))),(11,.one (.raw (.int .i64)))],[]⟩)] [] [] [] [] [8,9] func82 h
end Go.Proofs.YtbodiiomcfgokaaGreat
namespace Go.aK
open Go.RowKit
section
variable {P:Program} {w:World} {n:Nat} {t:TypeId} {cs:List Value}
section
variable {H:Type} {enc:TypeId×Value->H} {r:Reach} {base:Nat} {v:Value} {d:DataW H} {p:List MemPlace}
theorem mM{k:IntKind}(ht:P.underlying t=some (.int k))(hv:Value.okWide P w r base t v)(h:DataW.Trod enc P w 0 (λ_=>true) true t v d p):∃i,cy (gA w) (.raw (.int k i)) v/\(Lit.int k i).wf=true:=by
 obtain⟨i,rfl⟩:=WideShapes.okWide_int ht hv
 obtain⟨n,hn⟩:=Reads.of h
 obtain⟨j,e,hw⟩:=hn.int ht
 simp[Value.cells]at e
 subst e
 exact⟨_,.raw _ rfl rfl,hw⟩
end
end
end Go.aK
namespace Go.Proofs.YtbodiiomcfgokaaGreat
open Go.Proofs.Tryz Go.aK Go.RowKit
def dy(v:Int)(n:Nat):Nat:=(if Int.tmod v n<0 then Int.tmod v n+n else Int.tmod v n).toNat
theorem jo(v:Int){n:Nat}(h:1<=n):dy v n<n:=by
 unfold dy
 have h1:=Int.tmod_lt_of_pos v (show(0:Int)<(n:Int) by omega)
 have h2:=Int.lt_tmod_of_pos v (show(0:Int)<(n:Int) by omega)
 split<;>omega
theorem nZ(v:Int)(n:Nat)(h1:1<=n)(h2:n<=1000000):Pure prog 31 [pI v,pI (n:Nat)] (pI (dy v n:Nat)):=by
 refine ao.of (eX.c ?_)
 have hm:=Int.tmod_lt_of_pos v (show(0:Int)<(n:Int) by omega)
 have Wk:=Int.lt_tmod_of_pos v (show(0:Int)<(n:Int) by omega)
 refine ab.f (by simp;omega) ⟨by omega,ab.mk (λh=>?_) (λh=>?_)⟩
 ·have h:=of_decide_eq_true h
  rw[az (by omega) (by omega)]
  simp only[wk,aK.cH,dy]
  rw[if_pos h]
  congr 2;omega
 ·have h:=of_decide_eq_false h
  simp only[wk,aK.cH,dy]
  rw[if_neg h]
  congr 2;omega
end Go.Proofs.YtbodiiomcfgokaaGreat
namespace Go.aK
open Go.RowKit
section
variable (M:MD) (a0:Option Addr) (u0:Mem) (K:Kq) (ek:PV) (fg fp fd:FuncId)
def MD.len(fl:FuncId):Prop:=
 ab (Option.isNone a0)
 (K (pI (0)) u0)
 (nP a0 λb o=>
  ∃x,aB u0 b o 1=some [pA x]/\
  aa M.S.P fl [pA x] u0 λv u=>
  ∃n,v=(pI n)/\
  K (pI n) u)
end
namespace Wu
variable {M:MD} {KY VL κ:Type} {pr:KY×VL->List PV} {arg:KY×VL->PV} {pk:KY->List PV} {db:KY->PV} {pl:VL->List PV} {gI:VL->PV} {z:VL} {key:KY×VL->κ} {ck:κ->κ->Int} (O:Wu M pr arg pk db pl gI z key ck)
end Wu
theorem MD.K_{M:MD}{El:Type}{pr:El->List PV}{n fl:FuncId}(hn:∀{a0:Option Addr} {u0:Mem} {K:Kq},M.len a0 u0 K fl->aa M.S.P n [pA a0] u0 K)
  (hlen:∀ ⦃L:List aY⦄ ⦃μ:Mem⦄ ⦃b:Nat⦄ ⦃l:List El⦄,Ow (cT M.S.TS M.S.TE M.S.W b (l.map pr)::L) μ->∀ ⦃K:Kq⦄,K (pI (l.length:Nat)) μ->aa M.S.P fl [pP b 0] μ K)
  ⦃L:List aY⦄ ⦃μ:Mem⦄ ⦃m:Nat⦄ ⦃l:List El⦄ (hO:Ow (eV M pr m l::L) μ) ⦃K:Kq⦄ (hk:K (pI (l.length:Nat)) μ):aa M.S.P n [pP m 0] μ K:=by
 obtain⟨s,hO⟩:=eV.open_ hO
 exact hn (ab.f rfl ⟨_,hO.rd 0 rfl (by simp),hlen hO.swap ⟨_,rfl,hk⟩⟩)
end Go.aK
namespace Go.Proofs.YtbodiiomcfgokaaGreat
open Go.Proofs.Tryz Go.aK Go.RowKit
namespace RP
theorem Ta{a0:Option Addr}{u0:Mem}{K:Kq}(h:D.len a0 u0 K):aa prog 184 [pA a0] u0 K:=VC [] [] [] [] [] [] [] func184 h
def K_:=Ps.K_ (D:=D) (pr:=pv) Ta
theorem aaS{a0:Option Addr}{u0:Mem}{K:Kq}(h:M.len a0 u0 K 184):aa prog 119 [pA a0] u0 K:=VC [] [] [] [] [] [] [] func119 h
def af3:=MD.K_ (M:=M) (pr:=pv) aaS λ_ _ _ _ hO _ hk=>K_ hO hk
end RP
def cN(T:Tree)(p:Path):Nat:=(T.D.filter λq=>decide (p <+: q)).length
theorem oB.EH{T:Tree}(h:oB T){p:Path}(hp:p∈T.D):cN T p=1+((T.K p).map λc=>cN T (p++[c])).sum:=by
 have e:(1+((T.K p).map λc=>cN T (p++[c])).sum)=(p::(T.K p).flatMap λc=>T.D.filter λq=>decide ((p++[c]) <+: q)).length:=by
  rw[List.length_cons,List.length_flatMap,Nat.add_comm];rfl
 rw[e]
 unfold cN
 refine qb (h.nodup.filter _) ?_ λq=>?_
 ·refine List.nodup_cons.2 ⟨λhm=>?_,?_⟩
  ·obtain⟨c,_,hc⟩:=List.mem_flatMap.1 hm
   have:=(List.mem_filter.1 hc).2
   have cZ:(p++[c]) <+: p:=by simpa using this
   have h9:=cZ.length_le
   rw[List.length_append,List.length_singleton]at h9
   omega
  ·have hk:=h.Bt p hp
   generalize T.K p=K at hk
   induction K with
   |nil=>exact List.nodup_nil
   |cons c K ih=>
    obtain⟨h1,h2⟩:=List.nodup_cons.1 hk
    rw[List.flatMap_cons]
    refine List.nodup_append.2 ⟨h.nodup.filter _,ih h2,λa ha b hb e=>?_⟩
    subst e
    obtain⟨c',rI,iK⟩:=List.mem_flatMap.1 hb
    have q1:(p++[c]) <+: a:=by simpa using(List.mem_filter.1 ha).2
    have q2:(p++[c']) <+: a:=by simpa using(List.mem_filter.1 iK).2
    have e2:p++[c]=p++[c']:=by
     rcases List.prefix_or_prefix_of_prefix q1 q2 with h3|h3
     ·exact h3.eq_of_length (by simp)
     ·exact(h3.eq_of_length (by simp)).symm
    have:c=c':=by simpa using e2
    exact h1 (this▸rI)
 ·rw[List.mem_filter,List.mem_cons,List.mem_flatMap]
  constructor
  ·rintro⟨hq,cZ⟩
   by_cases e:q=p
   ·exact .inl e
   ·obtain⟨c,hc,h2⟩:=(h.below hp hq).1 ⟨by simpa using cZ,e⟩
    exact .inr ⟨c,hc,List.mem_filter.2 ⟨hq,by simpa using h2⟩⟩
  ·rintro(rfl|⟨c,hc,hm⟩)
   ·exact⟨hp,by simp⟩
   ·obtain⟨hq,h2⟩:=List.mem_filter.1 hm
    have h2:(p++[c]) <+: q:=by simpa using h2
    exact⟨hq,by simpa using((List.prefix_append p [c]).trans h2)⟩
theorem lp(T:Tree):cN T []=T.D.length:=by
 unfold cN
 rw[List.filter_eq_self.2 λq _=>by simp]
theorem re(T:Tree)(p:Path):cN T p<=T.D.length:=List.length_filter_le _ _
section
variable {T:Tree} {fr:Path->List cf} {mn:Path->List Nat}
theorem wD(h:oB T){tk:Path->List cf}{ct:Path->List Nat}:∀(n:Nat) (p:Path),p∈T.D->17-p.length<=n->∀{L:List aY} {μ:Mem},Ow (cb T tk ct fr mn::L) μ->∀{K:Kq},(∀μ',Ow (cb T tk ct fr mn::L) μ'->K (pI ((cN T p-1:Nat):Int)) μ')->aa prog 82 [pP (T.B p) 0] μ K:=by
 intro n
 induction n with
 |zero=>intro p hp hn;have:=h.len p hp;omega
 |succ n ih=>
  intro p hp hn L μ hO K hk
  have ui:=h.Bg
  obtain⟨F,hF⟩:=cb.rd hp hO
  have HQ:=h.EH hp
  have hle:=re T p
  have dQ:∀i,(((T.K p).take i).map λc=>cN T (p++[c])).sum<=((T.K p).map λc=>cN T (p++[c])).sum:=λi=>by
   conv=>rhs;rw[<- List.take_append_drop i (T.K p)]
   rw[List.map_append,List.sum_append];omega
  have ED:=h.kl hp
  refine gJ.c ⟨_,_,_,aE hF (by simp),?_⟩
  refine ak.dm (n:=(T.K p).length) (by omega) (λi s u=>s=(((((T.K p).take i).map λc=>cN T (p++[c])).sum:Nat):Int)/\Ow (cb T tk ct fr mn::L) u) ⟨by simp,hO⟩ ?_ ?_
  ·rintro i s u next hi ⟨rfl,h2⟩ ar
   have po:=h.HE hp hi
   obtain⟨b,hb,fB⟩:=cb.Zn hp h2 hi
   dsimp only[gK]
   rw[hb]
   refine ab.t (by simpa using hi) ⟨by omega,by simpa using hi,_,?_,ih _ po (by simp;omega) h2 λu' h3=>⟨_,rfl,ar _ _ ⟨?_,h3⟩⟩⟩
   ·simpa using fB
   ·have h4:=dQ (i+1)
    have h5:(((T.K p).take (i+1)).map λc=>cN T (p++[c])).sum=(((T.K p).take i).map λc=>cN T (p++[c])).sum+cN T (p++[(T.K p)[i]]):=by
     rw[dT hi,List.sum_append];simp
    have h6:=h.EH po
    have w1:IntKind.wrap .i64 ((((((T.K p).take i).map λc=>cN T (p++[c])).sum:Nat):Int)+1)=(((((T.K p).take i).map λc=>cN T (p++[c])).sum:Nat):Int)+1:=az (by omega) (by omega)
    rw[w1,az (by omega) (by omega)]
    omega
  ·rintro s u next ⟨rfl,h2⟩
   refine ab.f (by simp) ?_
   have:=hk u h2
   rw[List.take_length]
   rw[show cN T p-1=((T.K p).map λc=>cN T (p++[c])).sum from by omega]at this
   exact this
end
def cS(es:List af)(ps:List Prod):Nat:=bz (ps.flatMap λq=>jl es q.conds)
section
variable {n:Nat} {x:NC} {es:List af} {ps:List Prod} {w:Nat}
theorem pd.nB{ms:dL}{ids:pt}{T:Tree}{tk:Path->List cf}{ct:Path->List Nat}(h:pd x T es ms ids tk ct ps w (λ_=>False)):∀r,r∈T.D/\r≠[]↔r≠[]/\∃p∈ps,r <+: p.conds:=by
 have key:∀(m:Nat) (r:Path),r∈T.D->r≠[]->17-r.length<=m->∃p∈ps,r <+: p.conds:=by
  intro m
  induction m with
  |zero=>intro r hr _ hm;have:=h.core.tree.len r hr;omega
  |succ m ih=>
   intro r hr AP hm
   rcases h.uf r hr AP (λh=>h)with hk|he
   ·cases hK:T.K r with
    |nil=>exact absurd hK hk
    |cons d l=>
     have hd:r++[d]∈T.D:=(h.core.tree.kids r hr d).1 (by rw[hK];simp)
     obtain⟨p,hp,cZ⟩:=ih (r++[d]) hd (by simp) (by simp;omega)
     exact⟨p,hp,List.IsPrefix.trans (List.prefix_append _ _) cZ⟩
   ·rw[h.ends r hr]at he
    obtain⟨p,hp⟩:=List.exists_mem_of_length_pos he
    obtain⟨h1,h2⟩:=List.mem_filter.1 hp
    have h2:p.conds=r:=by simpa using h2
    exact⟨p,h1,by rw[h2];exact List.prefix_refl _⟩
 intro r
 constructor
 ·rintro⟨h1,h2⟩
  exact⟨h2,key 17 r h1 h2 (by omega)⟩
 ·rintro⟨h2,p,hp,cZ⟩
  exact⟨h.core.tree.xR (h.pD p hp) cZ,h2⟩
theorem afY{L:List aY}{μ:Mem}(hO:Ow (bR n x es ps w::L) μ){K:Kq}(hk:∀μ',Ow (bR n x es ps w::L) μ'->K (pI ((ps.length:Nat):Int)) μ'):aa prog 57 [pP n 0] μ K:=by
 obtain⟨T,ms,ids,tk,ct,fr,mn,⟨hR,dQ⟩,h1⟩:=bR.open_ hO
 refine Ev.c ⟨_,aE (an.qz (x:=x) (es:=es) (ms:=ms) (ids:=ids) h1 (by simp)) (by simp),?_⟩
 refine RP.af3 (l:=ps.map (fZ T.B)) (Ow.ord [2] h1) ⟨_,rfl,?_⟩
 rw[List.length_map]
 exact hk μ hO
theorem mS{L:List aY}{μ:Mem}(hO:Ow (bR n x es ps w::L) μ){K:Kq}(hk:∀D:List Path,D.Nodup->(∀r,r∈D↔r≠[]/\∃p∈ps,r <+: p.conds)->∀μ',Ow (bR n x es ps w::L) μ'->K (pI ((D.length:Nat):Int)) μ'):aa prog 32 [pP n 0] μ K:=by
 obtain⟨T,ms,ids,tk,ct,fr,mn,⟨hR,dQ⟩,h1⟩:=bR.open_ hO
 have EY:=hR.core.tree.root
 refine ee.c ⟨_,aE (an.qz (x:=x) (es:=es) (ms:=ms) (ids:=ids) h1 (by simp)) (by simp),?_⟩
 rw[hR.root]
 refine wD hR.core.tree 17 [] EY (by simp) (Ow.ord [1] h1) λu h2=>⟨_,rfl,?_⟩
 have hlen:cN T []-1=(T.D.filter λr=>decide (r≠[])).length:=by
  rw[lp]
  obtain⟨A,B,e⟩:=List.append_of_mem EY
  rw[ni hR.core.tree e,e]
  simp
 rw[hlen]
 refine hk _ (hR.core.tree.nodup.filter _) (λr=>?_) u (bR.shut hR dQ (Ow.ord [1] h2))
 rw[<- hR.nB r,List.mem_filter]
 simp
theorem rf(hw:w<=1000){L:List aY}{μ:Mem}(hO:Ow (bR n x es ps w::L) μ){K:Kq}(hk:∀μ',Ow (bR n x es ps w::L) μ'->K (pI ((cS es ps:Nat):Int)) μ'):aa prog 49 [pP n 0] μ K:=by
 obtain⟨T,ms,ids,tk,ct,fr,mn,⟨hR,dQ⟩,h1⟩:=bR.open_ hO
 have ow:ps.length<=1000:=Nat.le_trans hR.xt hw
 refine eP.c λb3 DB=>?_
 refine(h1.new 3 [pI 0] DB).st 0 rfl (by simp) λu h=>?_
 refine⟨_,aE (an.qz (x:=x) (es:=es) (ms:=ms) (ids:=ids) h (by simp)) (by simp),(RP.o_ x.pr).call ⟨_,_,_,rfl,?_⟩⟩
 have nR:((ps.map (fZ T.B)).map λy=>[RP.db y.1,RP.gI y.2]).length=ps.length:=by simp
 refine bk.own (RP.fG x.pr (ps.map (fZ T.B)) (by simp;omega)) (Ow.at 3 rfl h)
  (λk u=>Ow (dc n x es ms ids T tk ct fr mn ps (Pt b3 3 [pI ((cS es (ps.take k):Nat):Int)]::L)) u) (λ_ _=>False) (λk=>fJ.own _) (λ_ _ _ _ h=>h.elim) (λμ' h'=>?_) ?_ ?_ (λ_ _ h=>h.elim)
 ·have h2:Ow (RP.cU x.pr (ps.map (fZ T.B))::Pt b3 3 [pI 0]::an n x es ms ids::cb T tk ct fr mn::RT.At x.el es::L) μ':=h'
  exact Ow.ord [2,2,0,1,0] h2
 ·rintro k fH u2 R h2 bU _
  have bW:k<ps.length:=by simpa using fH
  have hm:=List.getElem_mem bW
  have hD:=hR.pD _ hm
  obtain⟨_,_,_,_,_,g1,g2⟩:=(hR.rE _ hm).facts
  rw[List.getElem_map,List.getElem_map]
  refine⟨_,_,_,_,_,_,_,_,rfl,?_⟩
  have RG:((dE T.B ps[k].conds).map λb=>[pP b 0]).length=ps[k].conds.length:=by rw[List.length_map,dC]
  dsimp only[fZ]
  refine ak.each (n:=ps[k].conds.length) (by omega) (λi u=>Ow (dc n x es ms ids T tk ct fr mn ps (Pt b3 3 [pI ((max (cS es (ps.take k)) (bz ((List.range i).flatMap λi=>cQ es (ps[k].conds.take (i+1)))):Nat):Int)]::L)) u) ?_ ?_ ?_
  ·have:max (cS es (ps.take k)) (bz ((List.range 0).flatMap λi=>cQ es (ps[k].conds.take (i+1))))=cS es (ps.take k):=by simp[bz]
   rw[this];exact h2
  ·rintro i u3 next hi h3 ar
   have DE:ps[k].conds.take (i+1)∈T.D:=hR.core.tree.xR hD (List.take_prefix _ _)
   have ep:ps[k].conds.take (i+1)=ps[k].conds.take i++[ps[k].conds[i]]:=by rw[List.take_add_one,List.getElem?_eq_getElem hi];rfl
   obtain⟨F,hF⟩:=cb.rd DE (Ow.swap h3)
   refine ab.t (by simpa[dC]using hi) ⟨by omega,_,sg T.B _ hi,_,rfl,?_⟩
   dsimp only[nP,nn,aF]
   have XZ:ct (ps[k].conds.take (i+1))=cQ es (ps[k].conds.take (i+1)):=by
    rw[ep]at DE |-
    rw[hR.core.dH.EH _ _ DE,dY]
   have fB:aB u3 (T.B (ps[k].conds.take (i+1))) (0+10) 1=some [.list 1 F.k ((cQ es (ps[k].conds.take (i+1))).map jv)]:=by
    have:=aE (o:=0+10) (n:=1) hF (by simp)
    dsimp only[gK]at this
    rw[XZ]at this
    exact this
   refine⟨_,_,fB,?_⟩
   have iV:(cQ es (ps[k].conds.take (i+1))).length<=1000:=by
    rw[ep,dY]
    unfold je
    rw[List.length_map,List.length_range]
    rw[ep]at DE
    have:=(hR.core.tree.LB DE).2
    omega
   generalize mR:cQ es (ps[k].conds.take (i+1))=cs at*
   generalize hmx:max (cS es (ps.take k)) (bz ((List.range i).flatMap λi=>cQ es (ps[k].conds.take (i+1))))=mx at*
   refine ak.each (n:=cs.length) (by omega) (λj u=>Ow (dc n x es ms ids T tk ct fr mn ps (Pt b3 3 [pI ((max mx (bz (cs.take j)):Nat):Int)]::L)) u) ?_ ?_ ?_
   ·have:max mx (bz (cs.take 0))=mx:=by simp[bz]
    rw[this];exact h3
   ·rintro j u4 iJ hj h4 gu
    have eT:(cs.map jv)[Int.toNat (j:Int)]?=some [pI ((cs[j]:Nat):Int)]:=by
     rw[Int.toNat_natCast,List.getElem?_map,List.getElem?_eq_getElem hj];rfl
    refine ab.t (by simpa using hj) ⟨by omega,_,eT,_,rfl,_,h4.rd 4 rfl (by simp),?_⟩
    refine h4.st 4 rfl (by simp) λu5 h5=>gu _ ?_
    have e:dN [pI ((max mx (bz (cs.take j)):Nat):Int)] 0 [pI (if((cs[j]:Nat):Int)>((max mx (bz (cs.take j)):Nat):Int)then((cs[j]:Nat):Int)else((max mx (bz (cs.take j)):Nat):Int))]=[pI ((max mx (bz (cs.take (j+1))):Nat):Int)]:=by
     have e1:bz (cs.take (j+1))=max (bz (cs.take j)) cs[j]:=by
      rw[List.take_add_one,List.getElem?_eq_getElem hj,cl]
      show max _ (bz [cs[j]])=_
      rw[jZ]
     rw[e1]
     show[pI _]=_
     congr 2
     split<;>omega
    rw[e]at h5
    exact h5
   ·rintro u4 iJ h4
    rw[List.take_length]at h4
    refine ab.f (by simp) (ar _ ?_)
    have e:max (cS es (ps.take k)) (bz ((List.range (i+1)).flatMap λi=>cQ es (ps[k].conds.take (i+1))))=max mx (bz cs):=by
     rw[List.range_succ,List.flatMap_append,cl,<- hmx]
     simp only[List.flatMap_cons,List.flatMap_nil,List.append_nil,mR]
     omega
    rw[e];exact h4
  ·rintro u3 next h3
   refine ab.f (by simp[dC]) (bU _ ?_)
   have e:cS es (ps.take (k+1))=max (cS es (ps.take k)) (bz ((List.range ps[k].conds.length).flatMap λi=>cQ es (ps[k].conds.take (i+1)))):=by
    unfold cS
    rw[zL bW,cl];rfl
   rw[e];exact h3
 ·intro u2 h2
  rw[nR,List.take_length]at h2
  dsimp only[PK]
  refine⟨_,h2.rd 4 rfl (by simp),hk u2 (bR.shut (fr:=fr) (mn:=mn) hR dQ ?_)⟩
  exact h2.tail λ_ h=>h.tail λ_ h=>h.tail λ_ h=>h.tail λ_ h=>h.drop
end
open K6
section
variable {c:ae} {es:List af} {b1:List aK.Bind}
theorem FI{b:List aK.Bind}(h:∀e∈es,cO c e b=some b1):aN c b es=es.map λe=>(e,b1):=by
 unfold aN
 induction es with
 |nil=>rfl
 |cons e es ih=>
  rw[List.filterMap_cons,h e (by simp)]
  simp only[Option.map_some,List.map_cons]
  rw[ih λe he=>h e (by simp[he])]
theorem pQ(hk:c.kind=1)(h0:∀e∈es,cO c e []=some b1)(h1:∀e∈es,cO c e b1=some b1):∀k:Nat,(au es (List.replicate k c)).length=es.length ^ k/\∀t∈au es (List.replicate k c),t.binds=[]\/t.binds=b1
 |0=>⟨rfl,λt ht=>by
  have:t=EO:=by simpa[au]using ht
  exact .inl (by rw[this];rfl)⟩
 |k+1=>by
  obtain⟨i1,i2⟩:=pQ hk h0 h1 k
  have e:List.replicate (k+1) c=List.replicate k c++[c]:=by rw[List.replicate_succ']
  have hs:∀t∈au es (List.replicate k c),aN c t.binds es=es.map λe=>(e,b1):=λt ht=>by
   rcases i2 t ht with e|e<;>rw[e]
   ·exact FI h0
   ·exact FI h1
  rw[e,cV]
  unfold stepT
  rw[if_pos hk]
  constructor
  ·rw[List.length_flatMap]
   have:(au es (List.replicate k c)).map (λt=>((aN c t.binds es).map λx=>(⟨t.tags++[x.1.tag],x.2⟩:cf)).length)=(au es (List.replicate k c)).map λ_=>es.length:=List.map_congr_left λt ht=>by rw[List.length_map,hs t ht,List.length_map]
   rw[this,List.map_const',List.sum_replicate_nat,i1,Nat.pow_succ]
  ·intro t ht
   obtain⟨t',Gw,h2⟩:=List.mem_flatMap.1 ht
   rw[hs t' Gw]at h2
   obtain⟨x,hx,rfl⟩:=List.mem_map.1 h2
   obtain⟨e,_,rfl⟩:=List.mem_map.1 hx
   exact .inr rfl
theorem DT(hk:c.kind=1)(hs:aR c=1)(h0:∀e∈es,cO c e []=some b1)(h1:∀e∈es,cO c e b1=some b1)(k j:Nat):dZ es c (au es (List.replicate k c)) j=if j=0 then es.length ^ (k+1)else 0:=by
 cases j with
 |zero=>
  rw[if_pos rfl,jI,<- cV,<- List.replicate_succ']
  exact(pQ hk h0 h1 (k+1)).1
 |succ j=>rw[if_neg (by omega),KQ es c _ (by omega)]
theorem F_(hk:c.kind=1)(hs:aR c=1)(h0:∀e∈es,cO c e []=some b1)(h1:∀e∈es,cO c e b1=some b1){B:Int}(hB:1<=B)(k:Nat):du B es (List.replicate (k+1) c)↔B<((es.length ^ (k+1):Nat):Int):=by
 unfold du
 constructor
 ·rintro⟨i,hi,j,h⟩
  have vX:i<k+1:=by simpa using hi
  rw[List.getElem_replicate,List.take_replicate,Nat.min_eq_left (by omega),DT hk hs h0 h1]at h
  split at h
  ·rcases Nat.eq_zero_or_pos es.length with e|e
   ·rw[e,Nat.zero_pow (by omega)]at h;omega
   ·have:=Nat.pow_le_pow_right e (show i+1<=k+1 by omega)
    omega
  ·omega
 ·intro h
  refine⟨k,by simp,0,?_⟩
  rw[List.getElem_replicate,List.take_replicate,Nat.min_eq_left (by omega),DT hk hs h0 h1,if_pos rfl]
  exact h
theorem Qk(hk:c.kind=1)(hs:aR c=1)(h0:∀e∈es,cO c e []=some b1)(h1:∀e∈es,cO c e b1=some b1)(k:Nat):bz (jl es (List.replicate (k+1) c))=es.length ^ (k+1):=by
 have iP:∀i,i<k+1->cQ es ((List.replicate (k+1) c).take (i+1))=[es.length ^ (i+1)]:=λi hi=>by
  rw[List.take_replicate,Nat.min_eq_left (by omega),List.replicate_succ',dY]
  unfold je
  rw[hs]
  show[dZ es c _ 0]=_
  rw[DT hk hs h0 h1,if_pos rfl]
 refine Nat.le_antisymm (OA λx hx=>?_) ?_
 ·obtain⟨i,hi,hx⟩:=List.mem_flatMap.1 hx
  have hi:i<k+1:=by simpa using hi
  rw[iP i hi]at hx
  have hx:x=es.length ^ (i+1):=by simpa using hx
  rw[hx]
  rcases Nat.eq_zero_or_pos es.length with e|e
  ·rw[e,Nat.zero_pow (by omega)];omega
  ·exact Nat.pow_le_pow_right e (by omega)
 ·unfold jl
  rw[List.length_replicate,List.range_succ,List.flatMap_append,cl]
  simp only[List.flatMap_cons,List.flatMap_nil,List.append_nil]
  rw[iP k (by omega),jZ]
  omega
end
theorem bR.facts{n:Nat}{x:NC}{es:List af}{ps:List Prod}{w:Nat}{L:List aY}{μ:Mem}(h:Ow (bR n x es ps w::L) μ):((bK es ps:Nat):Int)<=x.M/\x.M<=1024/\ca aA aH es/\ca aI cM ps/\(∀q∈ps,l_ q)/\ps.length<=w:=by
 obtain⟨_,_,_,_,_,_,_,⟨hR,hs⟩,_⟩:=bR.open_ h
 exact⟨hs,hR.mb.2,hR.core.use.inv.ua,hR.si,hR.rE,hR.xt⟩
theorem iq{es:List af}(hn:xu es)(p:Prod):(eB es p).length=(au es p.conds).length:=by unfold eB;rw[List.length_map,gQ (dv hn _)]
theorem ko{es:List af}(hn:xu es)(ps:List Prod):(allM es ps).length=bK es ps:=by
 unfold allM bK
 rw[List.length_flatMap]
 congr 1
 exact List.map_congr_left λp _=>iq hn p
section
variable {n:Nat} {x:NC} {es:List af} {ps:List Prod} {w:Nat}
theorem Bk(hw:w<=1000){L:List aY}{μ:Mem}(hO:Ow (bR n x es ps w::L) μ){F:Kq}(hk:∀f μ',Ow (bR n x es ps w::L) μ'->F (.list 2 f ((allM es ps).map Mt.pv)) μ'):aa prog 23 [JH n] μ F:=by
 obtain⟨h1,h2,h3,_⟩:=bR.facts hO
 exact zW (l:=allM es ps) (BP hw) (by rw[ko (kM h3)];omega) hO hk
end
theorem iA.all{B M:Int}(hM:0<=M){add es:List af}(hu:ca aA aH es)(hp:es.Perm add)(hg:nU add){e:Int}{kA:List af}(h:iA B M [] [] add [] e kA):e=0/\kA=es:=by
 have hd:eN [] []:=⟨List.nodup_nil,by simp⟩
 have ha:fi [] add []:=⟨((hp.map aH).nodup_iff).1 (iO hu),by simp⟩
 have hN:oC [] add [] es:=⟨hu,λe=>by rw[hp.mem_iff];simp⟩
 cases h with
 |form h=>exact absurd hg h
 |none _ h=>exact absurd hd h
 |there _ _ h=>exact absurd ha h
 |dH _ _ _ _ _ h5=>obtain⟨q,hq,_⟩:=h5;cases hq
 |eK _ _ _ _ _ _ h6=>simp[bK]at h6;omega
 |ok _ _ _ _ h4=>exact⟨rfl,h4.uniq hN⟩
def bC:ae:=.mk 1 true ⟨#[115]⟩ (DP ⟨#[]⟩ (wS ⟨#[120]⟩)) [] false []
def bA:dh:=⟨⟨#[115]⟩,⟨⟨#[]⟩,wS ⟨#[122]⟩⟩,⟨0,⟨⟨#[115]⟩,⟨0,⟨#[]⟩,0⟩⟩,⟨⟨#[]⟩,⟨0,⟨#[]⟩,0⟩⟩⟩,1,⟨⟨#[]⟩,⟨0,⟨#[]⟩,0⟩⟩⟩
def bP(k:Nat):Prod:=⟨⟨#[97]⟩,List.replicate k bC,[bA]⟩
def bEl(i:Nat):af:=⟨iS ⟨#[83]⟩ 1,wS ⟨#[120]⟩,nS i,false,true,((i+1:Nat):Int)⟩
def bE(n:Nat):List af:=(List.range n).map bEl
theorem YJ(n:Nat):bE (n+1)=bE n++[bEl n]:=by unfold bE;rw[List.range_succ,List.map_append];rfl
theorem Ee(n:Nat):(bE n).length=n:=by unfold bE;rw[List.length_map,List.length_range]
theorem Ed{n:Nat}{e:af}(h:e∈bE n):∃i,i<n/\e=bEl i:=by
 obtain⟨i,hi,rfl⟩:=List.mem_map.1 h
 exact⟨i,List.mem_range.1 hi,rfl⟩
theorem VI(n:Nat):ca aA aH (bE n):=by
 unfold bE ca
 rw[List.pairwise_map]
 refine List.pairwise_lt_range.imp λ{a b} h=>?_
 exact tS.2 (by show((a+1:Nat):Int)<((b+1:Nat):Int);omega)
def bB:List aK.Bind:=[⟨⟨#[115]⟩,iS ⟨#[83]⟩ 1⟩]
theorem bS0{n:Nat}:∀e∈bE n,cO bC e []=some bB:=λe he=>by
 obtain⟨i,_,rfl⟩:=Ed he
 kernel_rfl
theorem bS1{n:Nat}:∀e∈bE n,cO bC e bB=some bB:=λe he=>by
 obtain⟨i,_,rfl⟩:=Ed he
 kernel_rfl
theorem akg:((List.range 12).all λi=>jR (bEl i))=true:=by kernel_rfl
theorem aao{n:Nat}(hn:n<=12):nU (bE n):=λe he=>by
 obtain⟨i,hi,rfl⟩:=Ed he
 exact⟨List.all_eq_true.1 akg i (List.mem_range.2 (by omega)),by show(1:Int)<=((i+1:Nat):Int);omega⟩
theorem bSz:aR bC=1:=by kernel_rfl
theorem VH(k:Nat):bD (bP k).conds:=bH.2 λc hc=>by
 obtain rfl:c=bC:=List.eq_of_mem_replicate hc
 refine(bu _).2 ⟨by decide,by decide,by decide,?_,?_,trivial⟩<;>intro t ht<;>simp[bC,ae.attr,ae.value,DP]at ht
 subst ht;exact⟨by decide,by decide,by decide⟩
theorem aan:∀k,aj (List.replicate k bC)=k
 |0=>rfl
 |k+1=>by
  rw[List.replicate_succ]
  simp only[aj,aan k,bSz];omega
theorem akh{k:Nat}(h:k<3):(cg (bP (k+1))).2.1=0:=by
 have h0:(cg (bP 1)).2.1=0:=by kernel_rfl
 have h1:(cg (bP 2)).2.1=0:=by kernel_rfl
 have h2:(cg (bP 3)).2.1=0:=by kernel_rfl
 match k,h with
 |0,_=>exact h0
 |1,_=>exact h1
 |2,_=>exact h2
theorem agd{n k:Nat}(hn:n<=11)(hk:k<3):n ^ (k+1)<=1331:=by
 have h1:n ^ (k+1)<=11 ^ (k+1):=Nat.pow_le_pow_left hn _
 have h2:11 ^ (k+1)<=11 ^ 3:=Nat.pow_le_pow_right (by omega) (by omega)
 omega
theorem Jl(es:List af)(p:Prod):bK es [p]=(au es p.conds).length:=by simp[bK]
theorem agh{B M:Int}{n k:Nat}(hB:1<=B/\B<=60)(hM:M=1000)(hk:k<3){e:Int}{qJ:List Prod}(h:mj B M (bE n) [] (bP (k+1)) e qJ):(((n ^ (k+1):Nat):Int)<=B/\e=0/\qJ=[bP (k+1)])\/(B<((n ^ (k+1):Nat):Int)/\e=25/\qJ=[]):=by
 have ho:=F_ (c:=bC) (es:=bE n) rfl bSz bS0 bS1 hB.1 k
 have ht:=(pQ (c:=bC) (es:=bE n) rfl bS0 bS1 (k+1)).1
 rw[Ee]at ho ht
 cases h with
 |form h=>exact absurd (akh hk) h
 |there _ h=>cases h
 |dH _ _ h=>exact .inr ⟨ho.1 h,rfl,rfl⟩
 |eK _ _ h3 h4=>
  have h3:¬B<((n ^ (k+1):Nat):Int):=λh=>h3 (ho.2 h)
  have h5:bK (bE n) []+(au (bE n) (bP (k+1)).conds).length=n ^ (k+1):=by show bK (bE n) []+(au (bE n) (List.replicate (k+1) bC)).length=_;rw[ht];simp[bK]
  rw[h5]at h4;omega
 |ok _ _ h3=>exact .inl ⟨by have:¬B<((n ^ (k+1):Nat):Int):=λh=>h3 (ho.2 h)
                            omega,rfl,rfl⟩
theorem agf{B M:Int}{k:Nat}(hB:1<=B/\B<=60)(hM:M=1000)(hk:k<3){e:Int}{qJ:List Prod}(h:mj B M [] [] (bP (k+1)) e qJ):e=0/\qJ=[bP (k+1)]:=by
 rcases agh (n:=0) hB hM hk h with⟨_,h1,h2⟩|⟨h1,_⟩
 ·exact⟨h1,h2⟩
 ·rw[Nat.zero_pow (by omega)]at h1;omega
theorem aki{B M:Int}{n k:Nat}(Zy:n<=12)(hB:1<=B/\B<=60)(hk:k<3)(hn:B<((n ^ (k+1):Nat):Int)){e:Int}{kA:List af}(h:iA B M [] [bP (k+1)] (bE n) [] e kA):e=25/\kA=[]:=by
 have ho:=F_ (c:=bC) (es:=bE n) rfl bSz bS0 bS1 hB.1 k
 rw[Ee]at ho
 have hd:eN [] []:=⟨List.nodup_nil,by simp⟩
 have ha:fi [] (bE n) []:=⟨iO (VI n),by simp⟩
 have hN:oC [] (bE n) [] (bE n):=⟨VI n,by simp⟩
 have AR:∀l,oC [] (bE n) [] l->∃q∈[bP (k+1)],du B l q.conds:=λl hl=>by
  rw[hl.uniq hN]
  exact⟨bP (k+1),by simp,ho.2 hn⟩
 cases h with
 |form h=>exact absurd (aao Zy) h
 |none _ h=>exact absurd hd h
 |there _ _ h=>exact absurd ha h
 |dH=>exact⟨rfl,rfl⟩
 |eK _ _ _ l h4 h5=>exact absurd (AR l h4) h5
 |ok _ _ _ l h4 h5=>exact absurd (AR _ h4) h5
theorem age{B M:Int}{ps:List Prod}{e:Int}{kA:List af}(h:iA B M [] ps [] [1] e kA):e=4:=by
 have hg:nU []:=by simp[nU]
 have hd:¬eN [] [1]:=λh=>by obtain⟨_,h,_⟩:=h.2 1 (by simp);cases h
 cases h with
 |form h=>exact absurd hg h
 |none=>rfl
 |there _ h=>exact absurd h hd
 |dH _ h=>exact absurd h hd
 |eK _ h=>exact absurd h hd
 |ok _ h=>exact absurd h hd
theorem KW(a b d:Int):Pure prog 10 [pI a,pI b,pI d] (pB true):=by
 refine ao.of (pH.c ?_)
 refine(nZ a 60 (by omega) (by omega)).call ⟨_,rfl,(nZ b 12 (by omega) (by omega)).call ⟨_,rfl,(nZ d 3 (by omega) (by omega)).call ⟨_,rfl,?_⟩⟩⟩
 have w1:=jo a (n:=60) (by omega)
 have w2:=jo b (n:=12) (by omega)
 have w3:=jo d (n:=3) (by omega)
 generalize dy a 60=R at w1
 generalize dy b 12=n at w2
 generalize dy d 3=k at w3
 have eR:IntKind.wrap .i64 (1+((R:Nat):Int))=((R+1:Nat):Int):=by rw[az (by omega) (by omega)];omega
 have ek:IntKind.wrap .i64 (1+((k:Nat):Int))=((k+1:Nat):Int):=by rw[az (by omega) (by omega)];omega
 rw[eR,ek]
 have heq:∀e:Int,((e == e):Bool)=true:=λe=>by simp
 have hpw:=agd (n:=n) (k:=k) (by omega) w3
 refine KZ _ 1000 (L:=[]) trivial (λh=>absurd (by omega) h) λ_ m x u1 hT hM h1=>⟨_,_,rfl,ab.f rfl (ab.f rfl ?_)⟩
 refine(Ii _).call ⟨_,_,_,rfl,?_⟩
 refine ak.dm (n:=k+1) (by omega) (λi (s:ByteArray×(Fl×Lq)×(Fl×Lq)) u=>s.1=⟨#[97]⟩/\s.2.1.2=(List.replicate i bC).map ae.pv/\s.2.2.2=[bA].map dh.pv/\Ow (eH s.2.1.1 i 7::bR m x [] [] 0::[]) u) ⟨rfl,rfl,rfl,h1.nil (.inl rfl)⟩ ?_ ?_
 ·rintro i ⟨_,⟨f,_⟩,⟨f',_⟩⟩ u next hi ⟨rfl,rfl,rfl,h2⟩ ar
  dsimp only at h2 |-
  refine ab.t (decide_eq_true (by omega)) ((Ii _).q ⟨_,_,_,rfl,(La _ (wS _)).q ⟨_,_,rfl,?_⟩⟩)
  simp only[Mem.oM]
  refine h2.app (by rw[List.length_map,List.length_replicate]) (by simp;omega) (by simp;omega) λf3 u3 h3=>ar _ _ ⟨rfl,?_,rfl,h3⟩
  rw[List.replicate_succ',List.map_append]
  congr 1
 rintro⟨_,⟨f,_⟩,⟨f',_⟩⟩ u2 next ⟨rfl,rfl,rfl,h2⟩
 dsimp only at h2 |-
 refine ab.f (by simp) ?_
 refine ak.dm (n:=n) (by omega) (λi s u=>s.2=(bE i).map af.pv/\Ow (eH s.1 i 12::bR m x [] [] 0::[]) u) ⟨rfl,h2.drop.nil (.inl rfl)⟩ ?_ ?_
 ·rintro i ⟨g,_⟩ u3 uU hi ⟨rfl,h3⟩ lW
  dsimp only at h3 |-
  have ei:IntKind.wrap .i64 (((i:Nat):Int)+1)=((i+1:Nat):Int):=by rw[az (by omega) (by omega)];rfl
  refine ab.t (decide_eq_true (by omega)) ((af5 _ _).call ⟨_,_,_,rfl,(Ii _).call ⟨_,_,_,rfl,(Yx _).call ⟨_,_,_,rfl,?_⟩⟩⟩)
  refine h3.app (by rw[List.length_map,Ee]) (by simp;omega) (by simp;omega) λf4 u4 h4=>lW _ _ ⟨?_,h4⟩
  rw[YJ,List.map_append,List.map_singleton,ei];rfl
 rintro⟨g,_⟩ u3 uU ⟨rfl,h3⟩
 dsimp only at h3 |-
 refine ab.f (by simp) ?_
 refine ak.dm (n:=k+1) (by omega) (λi s u=>s=((n ^ i:Nat):Int)/\u=u3) ⟨rfl,rfl⟩ ?_ ?_
 ·rintro i _ u4 Te hi ⟨rfl,rfl⟩ MS
  have hp:=agd (n:=n) (k:=i) (by omega) (by omega)
  refine ab.t (decide_eq_true (by omega)) (MS _ _ ⟨?_,rfl⟩)
  have:((n ^ i:Nat):Int)*((n:Nat):Int)=((n ^ (i+1):Nat):Int):=by rw[Nat.pow_succ];simp
  rw[this,az (by omega) (by omega)]
 rintro _ u4 Te ⟨rfl,rfl⟩
 refine ab.f (by simp) ?_
 have gD:aj (bP (k+1)).conds=k+1:=aan (k+1)
 have ZR:=Ee n
 refine kj (by omega) g .nil (bE n) [] (by omega) (by simp) (by simp;omega) (λe he=>by obtain⟨i,hi,rfl⟩:=Ed he;show((i+1:Nat):Int)<_;omega) h3.drop λe kA u5 hc h5=>⟨_,rfl,?_⟩
 obtain⟨rfl,rfl⟩:=hc.all (by omega) (VI n) (List.Perm.refl _) (aao (by omega))
 refine ab.f rfl ?_
 refine GM (by omega) .sh .sh (bP (k+1)) (VH _) (by omega) (by simp[bP]) h5 λe qJ u6 ha h6=>⟨_,rfl,?_⟩
 have zH:=agh (by omega) hM w3 ha
 rw[hT]at zH
 have ZB:=Qk (c:=bC) (es:=bE n) rfl bSz bS0 bS1 k
 have TC:=(pQ (c:=bC) (es:=bE n) rfl bS0 bS1 (k+1)).1
 rw[ZR]at ZB TC
 refine⟨λ_ u=>(((n ^ (k+1):Nat):Int)<=((R+1:Nat):Int)/\e=0/\Ow (bR m x (bE n) [bP (k+1)] 1::[]) u)\/(((R+1:Nat):Int)<((n ^ (k+1):Nat):Int)/\e=25/\Ow [] u),?_,?_⟩
 ·rcases zH with⟨a1,rfl,rfl⟩|⟨a1,rfl,rfl⟩
  ·refine ab.f (by rw[decide_eq_true a1];rfl) (ab.f rfl (.inl ⟨a1,rfl,h6⟩))
  ·refine ab.f (by rw[decide_eq_false (by omega)];rfl) (ab.t rfl (ab.f rfl ?_))
   refine afY h6 λu7 h7=>⟨_,rfl,ab.f rfl (mS h7 λD d1 d2 u8 h8=>⟨_,rfl,ab.f ?_ (.inr ⟨a1,rfl,trivial⟩)⟩)⟩
   have:D=[]:=List.eq_nil_iff_forall_not_mem.2 λr hr=>by
    obtain⟨_,p,hp,_⟩:=(d2 r).1 hr
    cases hp
   subst this;rfl
 ·rintro _ u7 (⟨a1,rfl,h7⟩|⟨a1,rfl,h7⟩)
  ·obtain⟨_,_,hu,_,_,_⟩:=bR.facts h7
   refine ab.t rfl (rf (by omega) h7 λu8 h8=>⟨_,rfl,ab.t ?_ ?_⟩)
   ·have:cS (bE n) [bP (k+1)]=n ^ (k+1):=by
     unfold cS
     rw[List.flatMap_cons,List.flatMap_nil,List.append_nil]
     exact ZB
    rw[this];exact heq _
   ·refine(DW m).call ⟨_,_,_,rfl,Bk (by omega) h8 λf9 u9 h9=>⟨_,_,rfl,ab.t ?_ (dS _)⟩⟩
    have:(allM (bE n) [bP (k+1)]).length=n ^ (k+1):=by
     rw[ko (kM hu),Jl];exact TC
    rw[List.length_map,this];exact heq _
  ·refine ab.f rfl ?_
   refine KZ _ 1000 (L:=[]) trivial (λh=>absurd (by omega) h) λ_ m2 x2 u8 hT2 hM2 h8=>⟨_,_,rfl,ab.f rfl (ab.f rfl ?_)⟩
   refine GM (by omega) .sh .sh (bP (k+1)) (VH _) (by omega) (by simp[bP]) h8 λe ps2 u9 ha2 h9=>⟨_,rfl,?_⟩
   obtain⟨rfl,rfl⟩:=agf (by omega) hM2 w3 ha2
   refine ab.f rfl ?_
   refine kj (by omega) g .nil (bE n) [] (by omega) (by simp) (by simp;omega) (λe he=>by obtain⟨i,hi,rfl⟩:=Ed he;show((i+1:Nat):Int)<_;omega) h9 λe RY u10 hc2 qk=>⟨_,rfl,?_⟩
   obtain⟨rfl,rfl⟩:=aki (by omega) (by omega) w3 (by rw[hT2];exact a1) hc2
   obtain⟨_,_,hu,_,_,_⟩:=bR.facts qk
   refine ab.t rfl ((DW m2).call ⟨_,_,_,rfl,Bk (by omega) qk λf11 u11 A_=>⟨_,_,rfl,ab.t ?_ ?_⟩⟩)
   ·have:(allM [] [bP (k+1)]).length=0:=by
     rw[ko (kM hu),Jl]
     have:=(pQ (c:=bC) (es:=bE 0) rfl bS0 bS1 (k+1)).1
     rw[Ee,Nat.zero_pow (by omega)]at this
     exact this
    rw[List.length_map,this];rfl
   ·refine kj (by omega) .nil .nr [] [1] (by simp) (by simp) (by simp) (by simp) A_ λe es3 u12 hc3 mw=>⟨_,rfl,?_⟩
    obtain rfl:=age hc3
    exact ab.t rfl (dS _)
open Go.ChangeShapes Go.WideShapes Go.ChangeAt
set_option maxRecDepth 100000 in
theorem ReteBounds.lifted(os:Os)(started:os.Started)(H:Type)(enc:TypeId×Value->H):
  ReturnsInHanded {} Tryz.checked os 10 .any (Rows.reteBoundsSpec.pre6 enc prog f10 Rows.reteBoundsRow.domain false) (Rows.reteBoundsSpec.post enc prog f10 false true false false):=by
 refine returnsInHanded_of_change (C:=Tryz.checked) qK started (by kernel_rfl) func10
  (ChangeSpec.witness6 (enc:=enc) (C:=Tryz.checked) false ⟨#[],#[.int .i64 0,.int .i64 0,.int .i64 0],[]⟩ 12 (by kernel_rfl) (by kernel_rfl) (by kernel_rfl) (by kernel_rfl)) ?_
 intro W base args ds gs before jH hW QG _
 have gU:∀(j:Nat) t v,f10.params[j]?=some t->args[j]?=some v->Value.okWide prog W .any base t v:=jH
 have QI:=hW
 obtain⟨p,q,Gv,hV,rfl,ZM,Bv⟩:=hW
 have hA:DataW.TrodAll enc prog W 0 (λ_=>true) true f10.params.toList args.toList ds p:=Gv
 rw[params10]at hA gU
 obtain⟨v0,vs0,d0,ds0,p0,q0,AW,rfl,rfl,h0,r0⟩:=trodAll_cons hA
 obtain⟨v1,WA,d1,ds1,p1,q1,rfl,rfl,rfl,h1,r1⟩:=trodAll_cons r0
 obtain⟨v2,vs2,d2,ds2,p2,q2,rfl,rfl,rfl,h2,r2⟩:=trodAll_cons r1
 obtain⟨rfl,rfl,rfl⟩:=trodAll_nil r2
 obtain rfl:args= #[v0,v1,v2]:=by cases args;simp_all
 obtain⟨rfl,rfl⟩:=trodVars_none hV
 have Qq:∀x∈p0,x.block<W.heap.size:=by obtain⟨m,hm⟩:=h0;exact DataW.trod_lt m _ _ _ hm
 obtain⟨a0,e0,w0⟩:=mM underlying3 (gU 0 3 v0 rfl rfl) h0
 have Qp:∀x∈p1,x.block<W.heap.size:=by obtain⟨m,hm⟩:=h1;exact DataW.trod_lt m _ _ _ hm
 obtain⟨a1,e1,w1⟩:=mM underlying3 (gU 1 3 v1 rfl rfl) h1
 have Tm:∀x∈p2,x.block<W.heap.size:=by obtain⟨m,hm⟩:=h2;exact DataW.trod_lt m _ _ _ hm
 obtain⟨a2,e2,w2⟩:=mM underlying3 (gU 2 3 v2 rfl rfl) h2
 clear Gv jH
 refine(ao.calls (vs:=[v0,v1,v2]) (KW a0 a1 a2) (bf.cons rfl e0 (bf.cons rfl e1 (bf.cons rfl e2 (bf.nil _))))).mono λe W' ⟨⟨v,x,Z,he,hr,hx⟩,tj⟩=>?_
 subst hx;subst he;rw[hr.ofRaw.1]
 exact⟨_,rfl,_,_,_,[],_,[],QI,trodAll_mk1 (shut_bool underlying4 _),(trodAll_cons_mk (Below.trod dj (by kernel_rfl) (of_decide_eq_true (by kernel_rfl)) h0 tj Qq) (trodAll_cons_mk (Below.trod dj (by kernel_rfl) (of_decide_eq_true (by kernel_rfl)) h1 tj Qp) (trodAll_cons_mk (Below.trod dj (by kernel_rfl) (of_decide_eq_true (by kernel_rfl)) h2 tj Tm) trodAll_mk0))),rfl,tj.frame _,λh=>by cases h⟩
theorem and2{a b:Bool}(h:a=true)(k:b=true):(a&&b)=true:=by rw[h,k];rfl
set_option maxHeartbeats 0 in
theorem ReteBounds.closed:joinedFacts Tryz.checked.prog 10 f10 Rows.reteBoundsSpec Rows.reteBoundsRow=true:=by
 unfold joinedFacts
 repeat' with_reducible apply and2
 all_goals (as_aux_lemma=>kernel_rfl)
theorem ReteBounds.proved:Rows.ReteBoundsSaid:=
 OpenClaim.holds_of_wide 10 f10 rfl rfl rfl rfl rfl rfl rfl ⟨rfl,rfl,rfl,rfl,rfl⟩ rfl rfl rfl rfl rfl (by kernel_rfl) func10 ReteBounds.closed
  (of_decide_eq_true (by kernel_rfl)) (by unfold Func.isWrapper;first|(rw[if_pos (by decide +kernel)];kernel_rfl)|(rw[if_neg (by decide +kernel)];exact⟨rfl,rfl⟩))
  (λos started H enc _=>ReteBounds.lifted os started H enc)
end Go.Proofs.YtbodiiomcfgokaaGreat
