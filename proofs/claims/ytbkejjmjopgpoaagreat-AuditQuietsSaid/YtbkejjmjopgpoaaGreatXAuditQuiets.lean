/- What is proved: the statement AuditQuiets, as it is given. Conditions: none. -/
import Derived.Test.YtbkejjmjopgpoaaGreatB19
import Derived.Test.YtbkejjmjopgpoaaGreatXAuditQuietsA
import Derived.Test.YtbkejjmjopgpoaaGreatB09
import Derived.Test.YtbkejjmjopgpoaaGreatB11
import Derived.Test.YtbkejjmjopgpoaaGreatB12
import Derived.Test.YtbkejjmjopgpoaaGreatB13
import Derived.Test.YtbkejjmjopgpoaaGreatB14
import Derived.Test.YtbkejjmjopgpoaaGreatB15
import Derived.Test.YtbkejjmjopgpoaaGreatB16
import Derived.Test.YtbkejjmjopgpoaaGreatB17
import Derived.Test.YtbkejjmjopgpoaaGreatB18
import Derived.Test.YtbkejjmjopgpoaaGreatProg
import Derived.KernelRfl
import Derived.Test.YtbkejjmjopgpoaaGreatRows
import Derived.Test.YtbkejjmjopgpoaaGreatChecked
import Derived.ClosedOfChecked
import Derived.WalkKit
import Derived.ProofKit
import Derived.OpenShut
import Derived.ShutString
import Derived.ChangeOld
import Derived.Below
set_option linter.all false
namespace Go.Proofs.YtbkejjmjopgpoaaGreat
open Go.az Go.RowKit
section
variable {es:List av} {R:Int}
theorem GZ{c:an}(hk:c.kind=1)(t:cA):aW es c [t]=(bf c t.binds es).map λx=>(⟨t.tags++[x.1.tag],x.2,t.at_⟩:cA):=by unfold aW;rw[if_pos hk];simp
theorem xL{c:an}(hk:c.kind=2)(t:cA):aW es c [t]=if(bf c t.binds es).isEmpty then[t]else[]:=by
 unfold aW
 have h1:¬c.kind=1:=by omega
 rw[if_neg h1,List.filter_cons,List.filter_nil,rX,if_neg h1,if_pos hk]
 cases(bf c t.binds es).isEmpty<;>rfl
theorem xK{c:an}(hk:¬(c.kind=1\/c.kind=2))(t:cA):aW es c [t]=if(vY es c.conds [t.binds]).isEmpty then[t]else[]:=by
 unfold aW
 rw[if_neg (λh=>hk (.inl h)),List.filter_cons,List.filter_nil,rX,if_neg (λh=>hk (.inl h)),if_neg (λh=>hk (.inr h))]
 cases(vY es c.conds [t.binds]).isEmpty<;>rfl
theorem LA{c:an}{ts us:List cA}(h:∀t∈us,t∈ts):∀t∈aW es c us,t∈aW es c ts:=by
 intro t ht
 unfold aW at ht |-
 by_cases hk:c.kind=1
 ·rw[if_pos hk]at ht |-
  obtain⟨a,ha,hb⟩:=List.mem_flatMap.1 ht
  exact List.mem_flatMap.2 ⟨a,h a ha,hb⟩
 ·rw[if_neg hk]at ht |-
  obtain⟨a,b⟩:=List.mem_filter.1 ht
  exact List.mem_filter.2 ⟨h t a,b⟩
theorem acy(hR:0<=R/\R<=1000000)(vg:es.length<=1000000){c:an}(hgo:Jl es R c.conds)(h3:c.kind=3):pd es R c:=by
 intro fa fv fc ft fe n N z cv ts L μ K aD Qs eg hN hz Wk wO hO hk
 have Qt:¬(c.kind=1\/c.kind=2):=by omega
 have Sq:=cT c
 refine jZ.c (ae.t (by rw[h3];rfl) ?_)
 refine aj.ed (n:=ts.length) (by omega) (λi x u=>x.2=(mD 0 (ts.take i)).map cA.pv/\Ow (m_ x.1 i 3::nz z R false N cv::L) u) ⟨rfl,hO.nil (.inl rfl)⟩ ?_ ?_
 ·rintro i ⟨f,_⟩ u next hi ⟨rfl,h⟩ ar
  refine ae.t (by simpa using hi) ⟨by omega,_,aI hi,_,_,rfl,?_⟩
  refine h.app (by rw[List.length_map,yG,List.length_take];omega) (by simp;omega) (by simp;omega) λf1 u1 h1=>ar _ _ ⟨?_,h1⟩
  rw[Bn 0 hi,List.map_append,Nat.zero_add];rfl
 ·rintro⟨f,_⟩ u next ⟨rfl,h⟩
  refine ae.f (by simp) ?_
  rw[List.take_length,show IntKind.wrap .i64 (((n:Nat):Int)+1)=((n+1:Nat):Int)from by rw[aB (by omega) (by omega)];rfl]
  refine hgo fc f fe (n+1) N z cv (mD 0 ts) ((xo c).1 aD).2.2 ((Km c).1 Qs).2 (by omega) (by omega) hz (by rw[yG];exact Wk) (λt ht=>⟨?_,?_⟩) h.drop λf1 o N1 cv1 Hm u1 hg hN1 hz1 Fm ht1 MI=>⟨_,_,rfl,?_⟩
  ·have h1:t.binds∈iY (mD 0 ts):=List.mem_map.2 ⟨t,ht,rfl⟩
   rw[mC]at h1
   obtain⟨t',h2,h3⟩:=List.mem_map.1 h1
   have:=(wO t' h2).1
   rw[<- h3];omega
  ·rw[(CM 0 ts t ht).2];simp;omega
  refine aj.ed (n:=ts.length) (by omega) (λk x u=>∃q:List cA,x.2=q.map cA.pv/\q.length<=k/\(∀t∈q,t∈ts)/\(Hm=aH es c.conds (mD 0 ts)->q=aW es c (ts.take k))/\Ow (m_ x.1 q.length 3::nz z R o N1 cv1::L) u) ⟨[],rfl,by simp,by simp,λ_=>by unfold aW;simp,MI.nil (.inl rfl)⟩ ?_ ?_
  ·rintro k ⟨f2,_⟩ u2 next eQ ⟨q,rfl,hq1,Wo,Zd,wR⟩ ar
   refine ae.t (by simpa using eQ) ((aaB f1 Hm (by omega) k).call ⟨_,rfl,ae.mk (λhn=>?_) (λhy=>?_)⟩)
   ·refine⟨by omega,_,aI eQ,_,_,_,_,_,rfl,?_⟩
    refine wR.app (by rw[List.length_map]) (by simp;omega) (by simp;omega) λf3 u3 ZI=>ar _ _ ⟨q++[ts[k]],by rw[List.map_append];rfl,by simp;omega,λt ht=>?_,λe=>?_,by rw[List.length_append];exact ZI⟩
    ·rcases List.mem_append.1 ht with ht|ht
     ·exact Wo t ht
     ·simp only[List.mem_singleton]at ht;subst ht;exact List.getElem_mem eQ
    ·rw[rB eQ,Zd e,xK Qt]
     rw[e]at hn
     have:=yM es c.conds ts 0 k eQ
     rw[Nat.zero_add]at this
     rw[this]at hn
     rw[if_pos (by simpa using hn)]
   ·refine ar _ _ ⟨q,rfl,by omega,Wo,λe=>?_,wR⟩
    rw[rB eQ,Zd e,xK Qt]
    rw[e]at hy
    have:=yM es c.conds ts 0 k eQ
    rw[Nat.zero_add]at this
    rw[this]at hy
    rw[if_neg (by simpa using hy),List.append_nil]
  ·rintro⟨f2,_⟩ u2 next ⟨q,rfl,hq1,Wo,Zd,wR⟩
   refine ae.f (by simp) ?_
   rw[List.take_length]at Zd
   refine hk f2 o N1 cv1 q u2 ?_ (by omega) hz1 (by omega) (λt ht=>by have:=(wO t (Wo t ht)).2;omega) wR.drop
   rcases hg with⟨rfl,g1,g2,g3⟩|⟨rfl,g1⟩
   ·rw[mC]at g1 g2
    refine .inl ⟨rfl,λj=>?_,?_,.inl (Zd g3)⟩
    ·have:=congrFun (BY (es:=es) Qt (iY ts)) j
     rw[this];exact g1 j
    ·rw[BY Qt];exact g2
   ·rw[mC]at g1
    obtain⟨j,hj⟩:=g1
    refine .inr ⟨rfl,j,?_⟩
    have:=congrFun (BY (es:=es) Qt (iY ts)) j
    rw[this];exact hj
theorem OK(hR:0<=R/\R<=1000000)(vg:es.length<=1000000){c:an}(Kv:c.kind=1\/c.kind=2):pd es R c:=by
 intro fa fv fc ft fe n N z cv ts L μ K aD Qs eg hN hz Wk wO hO hk
 have Zk:=((xo c).1 aD).1
 obtain⟨_,l1,l2,l3,l4,_⟩:=(im c).1 Zk
 have Sq:1<=cP c:=by rw[cT];omega
 have fin:∀(f:Fl) (out:List cA) (u:Mem),(out=aW es c ts\/(R<((aW es c ts).length:Nat)/\R<(out.length:Nat)))->out.length<=1000001->(∀t∈out,t∈aW es c ts)->Ow (nz z R false N cv::L) u->K (.list 3 f (out.map cA.pv)) u:=λf out u h1 h2 h3 hO=>by
  refine hk f false N cv out u (.inl ⟨rfl,λj=>by rw[JI Kv];omega,?_,h1⟩) (by omega) hz h2 (λt ht=>?_) hO
  ·funext j
   have:sh (n+1) (λj=>gT es c (iY ts) (j+1)) j=0:=by unfold sh;split<;>simp[JI Kv]
   omega
  ·exact xJ (m:=899999) (λt ht=>by have:=(wO t ht).2;omega) t (h3 t ht)
 refine jZ.c (ae.f (by rcases Kv with e|e<;>rw[e]<;>rfl) ?_)
 refine aj.ed (n:=ts.length) (by omega) (λi x u=>x.2=(aW es c (ts.take i)).map cA.pv/\(aW es c (ts.take i)).length<=1000000/\(c.kind=1->(((aW es c (ts.take i)).length:Nat):Int)<=R)/\Ow (m_ x.1 (aW es c (ts.take i)).length 3::nz z R false N cv::L) u) ?_ ?_ ?_
 ·have e:aW es c (ts.take 0)=[]:=by unfold aW;simp
  rw[e];exact⟨rfl,by simp,λ_=>hR.1,hO.nil (.inl rfl)⟩
 ·rintro i ⟨f,_⟩ u next hi ⟨rfl,Zl,hle,h⟩ ar
  have hbt:=(wO _ (List.getElem_mem hi)).1
  have ir:=rB (es:=es) (c:=c) hi
  generalize hD:aW es c (ts.take i)=D at h hle Zl ir |-
  refine ae.t (by simpa using hi) ?_
  refine⟨λs u=>s.2=(bf c ts[i].binds es).isEmpty/\∃o:List cA,s.1.2=o.map cA.pv/\o=(if c.kind=1 then aW es c (ts.take (i+1))else D)/\o.length<=1000000/\(c.kind=1->((o.length:Nat):Int)<=R)/\Ow (m_ s.1.1 o.length 3::nz z R false N cv::L) u,?_,?_⟩
  ·let mk:av×List az.Bind->cA:=λx=>⟨ts[i].tags++[x.1.tag],x.2,ts[i].at_⟩
   let P:Nat->List cA:=λk=>D++(if c.kind=1 then(bf c ts[i].binds (es.take k)).map mk else[])
   have hPt:c.kind=1->aW es c (ts.take (i+1))=P es.length:=λh1=>by
    rw[ir,GZ h1];show _=D++_;rw[if_pos h1,List.take_length]
   have hP0:P 0=D:=by
    show D++_=D
    split<;>simp[bf]
   have hPn:c.kind≠1->∀k,P k=D:=λh1 k=>by show D++_=D;rw[if_neg h1,List.append_nil]
   refine aj.WN (n:=es.length) (by omega) (λk x y u=>y=(bf c ts[i].binds (es.take k)).isEmpty/\x.2=(P k).map cA.pv/\(P k).length<=1000000/\(c.kind=1->(((P k).length:Nat):Int)<=R)/\Ow (m_ x.1 (P k).length 3::nz z R false N cv::L) u) ⟨by simp[bf],by rw[hP0],by rw[hP0];exact Zl,by rw[hP0];exact hle,by rw[hP0];exact h⟩ ?_ ?_
   ·rintro k ⟨f1,_⟩ y u1 EM eQ ⟨rfl,rfl,p0,p1,h1⟩ mE
    dsimp only at h1 |-
    refine⟨λ_ u'=>(c.kind=1\/(bf c ts[i].binds (es.take k)).isEmpty=true)/\u'=u1,ae.t (by simpa using eQ) (ae.mk (λe=>⟨.inl (by simpa using e),rfl⟩) (λe=>ae.mk (λe2=>⟨.inr e2,rfl⟩) (λe2=>?_))),?_⟩
    ·have e:c.kind≠1:=by simpa using e
     refine⟨?_,P k,rfl,by rw[if_neg e,hPn e],p0,p1,h1⟩
     have e2:(bf c ts[i].binds (es.take k)).isEmpty=false:=e2
     rw[e2,kB (es:=es) k]
     cases hs:bf c ts[i].binds (es.take k)with
     |nil=>rw[hs]at e2;cases e2
     |cons a r=>rfl
    ·rintro _ _ ⟨hgo,rfl⟩
     refine⟨by omega,_,aI eQ,_,_,_,_,_,_,_,_,_,_,_,_,rfl,by omega,_,aI hi,_,_,rfl,?_⟩
     refine ax.call (Va .sh .sh .sh .sh c es[k] ts[i].binds (by omega) (xq l3) (xq l4)) λp hp=>?_
     obtain⟨l',rfl,Wt⟩:=hp
     refine⟨_,_,_,rfl,ae.mk (λiA=>?_) (λadF=>?_)⟩
     ·have iA:dx c es[k] ts[i].binds=none:=by
       cases hc:dx c es[k] ts[i].binds with
       |none=>rfl
       |some r=>rw[hc]at iA;cases iA
      have e1:bf c ts[i].binds (es.take (k+1))=bf c ts[i].binds (es.take k):=by rw[mj eQ,iA];simp
      have e2:P (k+1)=P k:=by show D++_=D++_;rw[e1]
      exact mE _ _ _ ⟨by rw[e1],by rw[e2],by rw[e2];exact p0,by rw[e2];exact p1,by rw[e2];exact h1⟩
     ·obtain⟨r,hc⟩:∃r,dx c es[k] ts[i].binds=some r:=by
       cases hc:dx c es[k] ts[i].binds with
       |none=>rw[hc]at adF;cases adF
       |some r=>exact⟨r,rfl⟩
      have:=Wt r hc
      subst this
      have e1:bf c ts[i].binds (es.take (k+1))=bf c ts[i].binds (es.take k)++[(es[k],l')]:=by rw[mj eQ,hc];simp
      have bm:(bf c ts[i].binds (es.take (k+1))).isEmpty=false:=by rw[e1];simp
      refine ae.mk (λbP=>?_) (λbP=>?_)
      ·have bP:c.kind=1:=by simpa using bP
       have e2:P (k+1)=P k++[mk (es[k],l')]:=by
        show D++_=D++_++_
        rw[if_pos bP,if_pos bP,e1,List.map_append,List.append_assoc];rfl
       have e3:[mk (es[k],l')].map cA.pv=[[.list 1 .sh (([]++ts[i].tags.map dU)++[[pI es[k].tag]]),.list 4 .sh (l'.map Bind.pv),pI ts[i].at_]]:=by simp[mk]
       have q_:=p1 bP
       have ape:=(wO _ (List.getElem_mem hi)).2
       refine⟨λs u'=>s.2=(P (k+1)).map cA.pv/\Ow (m_ s.1 (P (k+1)).length 3::nz z R false N cv::L) u',?_,?_⟩
       ·have a3:∀{u:Mem} (O:Ow (m_ f1 (P k).length 3::nz z R false N cv::L) u),bF false 3 56 f1 ((P k).map cA.pv) [[.list 1 .sh (([]++ts[i].tags.map dU)++[[pI es[k].tag]]),.list 4 .sh (l'.map Bind.pv),pI ts[i].at_]] u λf u'=>(f,(P k).map cA.pv++[[.list 1 .sh (([]++ts[i].tags.map dU)++[[pI es[k].tag]]),.list 4 .sh (l'.map Bind.pv),pI ts[i].at_]]).2=(P (k+1)).map cA.pv/\Ow (m_ f (P (k+1)).length 3::nz z R false N cv::L) u':=λO=>
         O.app (by rw[List.length_map]) (by simp;omega) (by simp;omega) λf' u' h'=>⟨(congrArg (λq=>(P k).map cA.pv++q) e3.symm).trans (List.map_append.symm.trans (congrArg (List.map cA.pv) e2.symm)),by rw[e2,List.length_append];exact h'⟩
        have a2:∀{u:Mem} {f:Fl} {F:Fl->Mem->Prop} (O:Ow (m_ f ts[i].tags.length 1::m_ f1 (P k).length 3::nz z R false N cv::L) u) (_:∀f' u',Ow (m_ f1 (P k).length 3::nz z R false N cv::L) u'->F f' u'),bF false 1 8 f ([]++ts[i].tags.map dU) [[pI es[k].tag]] u F:=λO hF=>
         O.app (by simp) (by simp;omega) (by simp;omega) λf' u' h'=>hF _ _ h'.drop
        have a1:∀{u:Mem} {F:Fl->Mem->Prop} (O:Ow (m_ f1 (P k).length 3::nz z R false N cv::L) u) (_:∀f' u',Ow (m_ f' ts[i].tags.length 1::m_ f1 (P k).length 3::nz z R false N cv::L) u'->F f' u'),bF false 1 8 .nil [] (ts[i].tags.map dU) u F:=λO hF=>
         (O.nil (n:=0) (.inl rfl)).app rfl (by simp;omega) (by simp;omega) λf' u' h'=>hF _ _ (by simpa using h')
        refine⟨by omega,_,aI hi,_,_,rfl,by omega,_,aI eQ,by omega,_,aI hi,?_⟩
        repeat' first
         |exact trivial
         |exact a3 ‹_›
         |refine a2 ‹_› λ_ _ _=>?_
         |refine a1 ‹_› λ_ _ _=>?_
         |refine⟨_,rfl,?_⟩
         |refine⟨?_,?_⟩
       ·rintro⟨f2,_⟩ u2 ⟨rfl,h2⟩
        obtain⟨a,cc,GH⟩:=nz.open_ (h2.drop)
        refine⟨_,GH.rd 0 rfl (by simp),ae.mk (λQk=>?_) (λiA=>?_)⟩
        ·rw[List.length_map]at Qk
         have Qk:R<(((P (k+1)).length:Nat):Int):=by simpa using Qk
         have Ul:∀t∈P (k+1),t∈aW es c ts:=λt ht=>by
          refine LA (us:=ts.take (i+1)) (λt ht=>List.mem_of_mem_take ht) t ?_
          rw[hPt bP]
          rcases List.mem_append.1 ht with ht|ht
          ·exact List.mem_append.2 (.inl ht)
          ·refine List.mem_append.2 (.inr ?_)
           rw[if_pos bP]at ht |-
           rw[List.take_length]
           obtain⟨x,hx,e⟩:=List.mem_map.1 ht
           refine List.mem_map.2 ⟨x,?_,e⟩
           rw[kB (es:=es) (k+1)];exact List.mem_append.2 (.inl hx)
         refine fin f2 _ u2 (.inr ⟨?_,Qk⟩) (by rw[e2,List.length_append,List.length_singleton];omega) Ul h2.drop
         have q1:(P (k+1)).length<=(P es.length).length:=by
          show(D++_).length<=(D++_).length
          rw[if_pos bP,if_pos bP,List.length_append,List.length_append,List.length_map,List.length_map,List.take_length,kB (es:=es) (k+1),List.length_append];omega
         have q2:(aW es c ts).length=(aW es c (ts.take (i+1))).length+(aW es c (ts.drop (i+1))).length:=by rw[<- List.length_append,<- pN,List.take_append_drop]
         rw[hPt bP]at q2
         omega
        ·rw[List.length_map]at iA
         have iA:(((P (k+1)).length:Nat):Int)<=R:=by simpa using iA
         exact mE _ _ _ ⟨bm.symm,rfl,by omega,λ_=>iA,h2⟩
      ·have bP:c.kind≠1:=by simpa using bP
       have e:P (k+1)=P k:=by rw[hPn bP,hPn bP]
       exact mE _ _ _ ⟨bm.symm,by rw[e],by rw[e];exact p0,λe=>absurd e bP,by rw[e];exact h1⟩
   ·rintro⟨f1,_⟩ y u1 EM ⟨rfl,rfl,p0,p1,h1⟩
    refine⟨λ_ _=>False,ae.f (by simp) ⟨by rw[List.take_length],P es.length,rfl,?_,p0,p1,h1⟩,λ_ _ h=>h.elim⟩
    by_cases bP:c.kind=1
    ·rw[if_pos bP,hPt bP]
    ·rw[if_neg bP,hPn bP]
  ·rintro⟨⟨f1,_⟩,y⟩ u1 ⟨rfl,o,rfl,ho,o0,o1,h1⟩
   dsimp only at h1 |-
   refine ae.mk (λqw=>ae.mk (λhem=>?_) (λhem=>?_)) (λqw=>?_)
   ·have qw:c.kind=2:=by simpa using qw
    rw[if_neg (by omega)]at ho
    subst ho
    refine⟨by omega,_,aI hi,_,_,_,_,_,rfl,?_⟩
    have e:aW es c (ts.take (i+1))=o++[ts[i]]:=by rw[ir,xL qw,if_pos hem]
    have bB:o.length<=i:=by
     rw[<- hD]
     have:=LC (es:=es) (c:=c) (ts:=ts.take i) (by omega)
     rw[List.length_take]at this;omega
    refine h1.app (by rw[List.length_map]) (by simp;omega) (by simp;omega) λf2 u2 h2=>ar _ _ ⟨by rw[e,List.map_append];rfl,by rw[e];simp;omega,(λh=>by omega),by rw[e,List.length_append];exact h2⟩
   ·have qw:c.kind=2:=by simpa using qw
    rw[if_neg (by omega)]at ho
    subst ho
    have e:aW es c (ts.take (i+1))=o:=by rw[ir,xL qw,if_neg (by rw[hem];simp),List.append_nil]
    exact ar _ _ ⟨by rw[e],by rw[e];exact o0,(λh=>by omega),by rw[e];exact h1⟩
   ·have bP:c.kind=1:=Kv.resolve_right (by simpa using qw)
    rw[if_pos bP]at ho
    subst ho
    exact ar _ _ ⟨rfl,o0,o1,h1⟩
 ·rintro⟨f,_⟩ u next ⟨rfl,Zl,hle,h⟩
  refine ae.f (by simp) ?_
  rw[List.take_length]at*
  exact fin f _ u (.inl rfl) (by omega) (λt ht=>ht) h.drop
theorem Tg(hR:0<=R/\R<=1000000)(vg:es.length<=1000000)(c:an):pd es R c:=by
 refine an.ind (Q:=pd es R) (λc ih=>?_) c
 intro fa fv fc ft fe n N z cv ts L μ K aD Qs
 rcases((Km c).1 Qs).1 with h|h|h
 ·exact OK hR vg (.inl h) fa fv fc ft fe n N z cv ts aD Qs
 ·exact OK hR vg (.inr h) fa fv fc ft fe n N z cv ts aD Qs
 ·exact acy hR vg (aey hR ih) h fa fv fc ft fe n N z cv ts aD Qs
theorem al0(hR:0<=R/\R<=1000000)(vg:es.length<=1000000)(l:List an):Jl es R l:=aey hR λc _=>Tg hR vg c
end
theorem qc:∀a b:List Int,iK a b=true↔bz a b<0
 |[],b=>by cases b<;>simp[iK,bz]<;>omega
 |a::l,[]=>by simp[iK,bz];omega
 |a::l,b::r=>by
  simp only[iK,bz]
  by_cases e:a=b
  ·rw[if_pos e,if_pos e];exact qc l r
  ·rw[if_neg e,if_neg e];simp;omega
abbrev neT(ts:List cA):Prop:=ts.Pairwise λa b=>a.tags≠b.tags
def kS(ts:List cA):List cA:=ts.foldl (λl t=>eu bz cA.tags t l) []
theorem LF(ts:List cA)(t:cA):kS (ts++[t])=eu bz cA.tags t (kS ts):=by unfold kS;rw[List.foldl_append];rfl
theorem sW{ts:List cA}(h:neT ts):dh bz cA.tags (kS ts)/\∀y,y∈kS ts↔y∈ts:=by
 have key:∀(ts acc:List cA),dh bz cA.tags acc->neT ts->(∀t∈ts,∀a∈acc,a.tags≠t.tags)->dh bz cA.tags (ts.foldl (λl t=>eu bz cA.tags t l) acc)/\∀y,y∈ts.foldl (λl t=>eu bz cA.tags t l) acc↔y∈ts\/y∈acc:=by
  intro ts
  induction ts with
  |nil=>intro acc h _ _;exact⟨h,by simp⟩
  |cons t ts ih=>
   intro acc h hp hd
   obtain⟨h1,h2⟩:=List.pairwise_cons.1 hp
   obtain⟨r1,r2⟩:=ih (eu bz cA.tags t acc) (h.ins fG t) h2 λt' ht' a ha=>by
    rcases(cF fG).1 ha with rfl|⟨ha,_⟩
    ·exact h1 t' ht'
    ·exact hd t' (by simp[ht']) a ha
   refine⟨r1,λy=>?_⟩
   simp only[List.foldl_cons]
   rw[r2,cF fG,List.mem_cons]
   constructor
   ·rintro(h|rfl|⟨h,_⟩)
    ·exact .inl (.inr h)
    ·exact .inl (.inl rfl)
    ·exact .inr h
   ·rintro((rfl|h)|h)
    ·exact .inr (.inl rfl)
    ·exact .inl h
    ·exact .inr (.inr ⟨h,hd t (by simp) y h⟩)
 obtain⟨a,b⟩:=key ts [] List.Pairwise.nil h (by simp)
 exact⟨a,λy=>by unfold kS;rw[b];simp⟩
open Go.Proofs.Tryz K6
theorem MU{c:an}{d:Int}(h:bU c d=0):c.kind=1\/c.kind=2\/c.kind=3:=by
 by_cases h3:c.kind=3
 ·exact .inr (.inr h3)
 ·by_cases h1:c.kind=1
  ·exact .inl h1
  ·by_cases h2:c.kind=2
   ·exact .inr (.inl h2)
   ·unfold bU at h
    have e3:(c.kind == 3)=false:=by simpa using h3
    have e1:(c.kind == 1)=false:=by simpa using h1
    have e2:(c.kind == 2)=false:=by simpa using h2
    rw[e3,e1,e2]at h;cases h
mutual
theorem PU:∀(c:an) (a d:Nat),(∀x∈ni c a d,bU x.2.2 x.2.1=0)->PW c
 | .mk k g i at_ v ac cs,a,d,h=>
   ⟨MU (h (a,d,.mk k g i at_ v ac cs) (by simp[ni])),yD cs (a+1) (d+1) λx hx=>h x (by simp[ni,hx])⟩
theorem yD:∀(l:List an) (a d:Nat),(∀x∈dR l a d,bU x.2.2 x.2.1=0)->Ad l
 |[],_,_,_=>trivial
 |c::cs,a,d,h=>⟨PU c a d λx hx=>h x (by simp[dR,hx]),yD cs (a+cP c) d λx hx=>h x (by simp[dR,hx])⟩
end
theorem Gm.knd{p:Prod}(h:Gm p):Ad p.conds:=yD _ 0 0 (xM (BC h.chk).1)
theorem RO{q:Bool}{size bytes:Nat}{rows new:Lq}{μ:Mem}{K:Fl->Mem->Prop}(h:bF false size bytes .nil rows new μ K):bF q size bytes .nil rows new μ K:=by
 cases q<;>exact h
theorem Ow.ae1{q:Bool}{L:List bk}{μ:Mem}{size bytes:Nat}{new:Lq}{K:Fl->Mem->Prop}(hO:Ow L μ)(hb:new.length*bytes<=140737488355328)(nH:new.length<4611686018427387904)
  (hk:∀iD μ',Ow (m_ iD new.length size::L) μ'->K iD μ'):bF q size bytes .nil [] new μ K:=
 RO ((hO.nil (n:=0) (.inl rfl)).app rfl (by simpa using hb) (by simpa using nH) λiD μ' h=>hk iD μ' (by simpa using h))
def Lu(es:List av)(p:Prod):List cA:=kS (aH es p.conds [nX])
abbrev TT(es:List av):Prop:=es.Pairwise λa b=>a.tag≠b.tag
theorem pM{es:List av}(h:TT es)(l:List an):neT (aH es l [nX]):=by
 have:=Oh h l
 rw[<- vO,List.pairwise_map]at this
 exact this
theorem nz.new{b:Nat}{R:Int}{L:List bk}{μ:Mem}(h:Ow (Pt b 182 [pV none 0 0,pI R,pB false]::L) μ):Ow (nz b R false 0 (λ_=>0)::L) μ:=nz.rD (jD.nil _ _ h).swap
theorem aex{es:List av}{B:Int}(hB:0<=B/\B<=1000000)(vg:es.length<=1000000){l:List an}(aD:uW l)(Qs:Ad l)(hs:ao l<=16){b:Nat}(fl fe:Fl){L:List bk}{μ:Mem}(hO:Ow (Pt b 182 [pV none 0 0,pI B,pB false]::L) μ){K:Kq}
  (hk:∀f o N cv out μ',(o=false->¬Pk B es l/\out=aH es l [nX]/\lP ((List.range N).map cv)=lP (Db es l))->(o=true->Pk B es l)->N<=16->out.length<=1000001->(∀t∈out,t.tags.length<=900000)->Ow (nz b B o N cv::L) μ'->K (.list 3 f (out.map cA.pv)) μ'):
  ab prog 158 [.list 7 fl (l.map an.pv),pI 0,.list 3 .nr [[.list 1 .sh [],.list 4 .sh [],pI 0]],.list 12 fe (es.map av.pv),pP b 0] μ K:=by
 refine al0 hB vg l fl .nr fe 0 0 b (λ_=>0) [nX] aD Qs (by omega) (Nat.le_refl _) (λ_ _=>rfl) (by simp) (λt ht=>?_) (nz.new hO) λf o N cv out μ' hg hN hz hl ht MJ=>hk f o N cv out μ' (λho=>?_) (λho=>?_) (by omega) hl ht MJ
 ·simp only[List.mem_singleton]at ht;subst ht;simp[nX];omega
 ·rcases hg with⟨_,h1,rfl,h3⟩|⟨h,_⟩
  ·refine⟨λQk=>?_,h3,?_⟩
   ·obtain⟨j,hj⟩:=(JY hB.1 l).2 Qk
    have:=h1 j
    have:((cL es l [[]] j:Nat):Int)<=B:=this
    omega
   ·have e:(λj=>(λ_=>0) j+sh 0 (cL es l (iY [nX])) j)=cL es l [[]]:=by
     funext j;rw[JL];exact Nat.zero_add _
    rw[e]at hz |-
    rw[IC]
    exact HP hz λj hj=>Di es l _ j hj
  ·rw[ho]at h;cases h
 ·rcases hg with⟨h,_⟩|⟨_,j,hj⟩
  ·rw[ho]at h;cases h
  ·exact(JY hB.1 l).1 ⟨j,hj⟩
def kp(es:List av)(p:Prod):List Mt:=(Lu es p).map λt=>⟨p.name,t.tags⟩
open Classical
def lz(m:Mt):ByteArray×List Int:=(m.name,m.tags)
def kr(a b:ByteArray×List Int):Int:=if bN a.1 b.1=0 then bz a.2 b.2 else bN a.1 b.1
theorem qg:kQ kr:=u_ dJ fG (λp:ByteArray×List Int=>p.1) (λp=>p.2) λa b h1 h2=>Prod.ext h1 h2
theorem CI{a b:Mt}(h:lz a=lz b):a=b:=by
 obtain⟨n,t⟩:=a
 obtain⟨n',t'⟩:=b
 simp only[lz,Prod.mk.injEq]at h
 rw[h.1,h.2]
noncomputable def mH:List ByteArray->List Prod->List Prod
 |_,[]=>[]
 |s,p::l=>if p.name∈s then mH s l else p::mH (p.name::s) l
theorem tP:∀{l:List Prod} {s:List ByteArray} {p:Prod},p∈mH s l->p∈l/\p.name∉s
 |[],s,p,h=>by cases h
 |q::l,s,p,h=>by
  unfold mH at h
  split at h
  ·obtain⟨h1,h2⟩:=tP h;exact⟨by simp[h1],h2⟩
  ·rename_i hq
   rcases List.mem_cons.1 h with rfl|h
   ·exact⟨by simp,hq⟩
   ·obtain⟨h1,h2⟩:=tP h
    exact⟨by simp[h1],λh3=>h2 (by simp[h3])⟩
theorem mG:∀(l:List Prod) (s:List ByteArray),(mH s l).Pairwise λa b=>a.name≠b.name
 |[],s=>List.Pairwise.nil
 |q::l,s=>by
  unfold mH
  split
  ·exact mG l s
  ·refine List.pairwise_cons.2 ⟨λp hp e=>(tP hp).2 (by simp[e]),mG l _⟩
theorem vi:∀(l:List Prod) (s:List ByteArray) (p:Prod),mH s (l++[p])=mH s l++(if p.name∈s\/∃q∈l,q.name=p.name then[]else[p])
 |[],s,p=>by simp[mH]
 |q::l,s,p=>by
  rw[List.cons_append]
  unfold mH
  split
  ·rename_i hq
   rw[vi l s p]
   congr 1
   by_cases h:p.name∈s\/∃q∈l,q.name=p.name
   ·rw[if_pos h,if_pos (h.imp id λ⟨x,hx,e⟩=>⟨x,by simp[hx],e⟩)]
   ·rw[if_neg h,if_neg]
    rintro(h1|⟨x,hx,e⟩)
    ·exact h (.inl h1)
    ·rcases List.mem_cons.1 hx with rfl|hx
     ·exact h (.inl (e▸hq))
     ·exact h (.inr ⟨x,hx,e⟩)
  ·rename_i hq
   rw[vi l _ p,List.cons_append]
   congr 2
   by_cases h:p.name∈s\/∃x∈q::l,x.name=p.name
   ·rw[if_pos h,if_pos]
    rcases h with h|⟨x,hx,e⟩
    ·exact .inl (by simp[h])
    ·rcases List.mem_cons.1 hx with rfl|hx
     ·exact .inl (by simp[e])
     ·exact .inr ⟨x,hx,e⟩
   ·rw[if_neg h,if_neg]
    rintro(h1|⟨x,hx,e⟩)
    ·rcases List.mem_cons.1 h1 with h1|h1
     ·exact h (.inr ⟨q,by simp,h1.symm⟩)
     ·exact h (.inl h1)
    ·exact h (.inr ⟨x,by simp[hx],e⟩)
def jE(es:List av)(p:Prod):List Mt:=(aH es p.conds [nX]).map λt=>⟨p.name,t.tags⟩
theorem GP{es:List av}(h:TT es)(p:Prod):(jE es p).Nodup:=by
 unfold jE List.Nodup
 rw[List.pairwise_map]
 exact(pM h p.conds).imp λbm e=>bm (by simpa using congrArg Mt.tags e)
theorem Oi{es:List av}(h:TT es)(p:Prod)(y:Mt):y∈jE es p↔y∈kp es p:=by
 unfold jE kp Lu
 simp only[List.mem_map]
 have:=(sW (pM h p.conds)).2
 constructor
 ·rintro⟨t,ht,e⟩;exact⟨t,(this t).2 ht,e⟩
 ·rintro⟨t,ht,e⟩;exact⟨t,(this t).1 ht,e⟩
theorem HQ{es:List av}(h:TT es)(p:Prod):(kp es p).Nodup:=by
 unfold kp Lu List.Nodup
 rw[List.pairwise_map]
 refine((sW (pM h p.conds)).1).imp λ{a b} bB e=>?_
 have e':a.tags=b.tags:=by simpa using congrArg Mt.tags e
 rw[e',(fG.zero _ _).2 rfl]at bB
 omega
theorem rY{f:Prod->List Mt}(hf:∀p,(f p).Nodup)(hn:∀p,∀m∈f p,m.name=p.name):∀{l:List Prod},(l.Pairwise λa b=>a.name≠b.name)->(l.flatMap f).Nodup
 |[],_=>by simp
 |p::l,h=>by
  rw[List.flatMap_cons,List.nodup_append]
  obtain⟨h1,h2⟩:=List.pairwise_cons.1 h
  refine⟨hf p,rY hf hn h2,λa ha b hb=>?_⟩
  rintro rfl
  obtain⟨q,hq,hb⟩:=List.mem_flatMap.1 hb
  exact h1 q hq ((hn p a ha).symm.trans (hn q a hb))
theorem LB(es:List av)(c:an):aW es c []=[]:=by unfold aW;split<;>simp
theorem rv(es:List av):∀(l:List an),aH es l []=[]
 |[]=>rfl
 |c::l=>by
  show aH es l (aW es c [])=[]
  rw[LB];exact rv es l
theorem vP(es:List av)(l:List an):∀(ts:List cA),aH es l ts=ts.flatMap λt=>aH es l [t]
 |[]=>rv es l
 |t::ts=>by
  have e:t::ts=[t]++ts:=rfl
  rw[e,rA,vP es l ts,List.flatMap_append]
  simp
theorem GW{es:List av}{c:an}(hk:c.kind=1)(l:List an)(t:cA):aH es (c::l) [t]=(bf c t.binds es).flatMap λx=>aH es l [⟨t.tags++[x.1.tag],x.2,t.at_⟩]:=by
 have e:aW es c [t]=(bf c t.binds es).map λx=>⟨t.tags++[x.1.tag],x.2,t.at_⟩:=by
  unfold aW;rw[if_pos hk];simp
 show aH es l (aW es c [t])=_
 rw[e,vP,List.flatMap_map]
theorem AM{es:List av}{c:an}(hk:c.kind≠1)(l:List an)(t:cA):aH es (c::l) [t]=if(zT es c t.binds).isEmpty then[]else aH es l [t]:=by
 have e:aW es c [t]=if(zT es c t.binds).isEmpty then[]else[t]:=by
  unfold aW;rw[if_neg hk]
  cases h:(zT es c t.binds).isEmpty<;>simp[h]
 show aH es l (aW es c [t])=_
 rw[e]
 split
 ·exact rv es l
 ·rfl
theorem UC{es:List av}{c:an}(hk:c.kind=2)(b:List az.Bind):(zT es c b).isEmpty= !(bf c b es).isEmpty:=by
 rw[rX,if_neg (by omega),if_pos hk]
 split<;>simp_all
theorem UE{es:List av}{c:an}(h1:c.kind≠1)(h2:c.kind≠2)(b:List az.Bind)(t:cA)(ht:t.binds=b):(zT es c b).isEmpty= !(aH es c.conds [t]).isEmpty:=by
 rw[rX,if_neg h1,if_neg h2]
 have e:=eX es c.conds [t]
 have e2:iY [t]=[b]:=by simp[iY,ht]
 rw[e2]at e
 have e3:(vY es c.conds [b]).isEmpty=(aH es c.conds [t]).isEmpty:=by
  rw[<- e];unfold iY;simp
 rw[<- e3]
 split<;>simp_all
def qa(x y:Mt):Bool:=decide (kr (lz x) (lz y)<0)
def fH(x:Mt):List Mt->Nat
 |[]=>0
 |y::l=>if qa x y=true/\fH x l=0 then 0 else fH x l+1
def gz(l:List Mt)(x:Mt):List Mt:=l.take (fH x l)++x::l.drop (fH x l)
theorem pX{x:Mt}:∀{l:List Mt} {i:Nat},i<=l.length->(∀(j:Nat) (h:j<l.length),i<=j->qa x l[j]=true)->(i=0\/∃h:i-1<l.length,qa x l[i-1]=false)->fH x l=i
 |[],i,hi,_,_=>by simp at hi;subst hi;rfl
 |y::l,0,hi,d_,_=>by
  have h1:=pX (x:=x) (l:=l) (i:=0) (by omega) (λj h _=>d_ (j+1) (by simp;omega) (by omega)) (.inl rfl)
  have h2:=d_ 0 (by simp) (by omega)
  unfold fH
  rw[if_pos ⟨h2,h1⟩]
 |y::l,i+1,hi,d_,h0=>by
  have wQ:i<=l.length:=by simpa using hi
  have Kx:∀(j:Nat) (h:j<l.length),i<=j->qa x l[j]=true:=λj h Ah=>d_ (j+1) (by simp;omega) (by omega)
  rcases h0 with h0|⟨hl,h0⟩
  ·omega
  unfold fH
  cases i with
  |zero=>
   have h1:=pX (x:=x) (l:=l) (i:=0) wQ Kx (.inl rfl)
   have Al:qa x y=false:=h0
   rw[h1,if_neg (by rw[Al];simp)]
  |succ k=>
   have h1:=pX (x:=x) (l:=l) (i:=k+1) wQ Kx (.inr ⟨by omega,h0⟩)
   rw[h1,if_neg (by omega)]
theorem Cm{x:Mt}{l:List Mt}{i:Nat}(hi:i<=l.length)(h1:∀(j:Nat) (h:j<l.length),i<=j->qa x l[j]=true)(h0:i=0\/∃h:i-1<l.length,qa x l[i-1]=false):l.take i++x::l.drop i=gz l x:=by
 unfold gz;rw[pX hi h1 h0]
theorem tp(x:Mt):∀l:List Mt,fH x l<=l.length
 |[]=>Nat.le_refl 0
 |y::l=>by
  unfold fH
  have:=tp x l
  split<;>simp;omega
theorem uT(x:Mt):∀l:List Mt,(∀(j:Nat) (h:j<l.length),fH x l<=j->qa x l[j]=true)/\(fH x l=0\/∃h:fH x l-1<l.length,qa x l[fH x l-1]=false)
 |[]=>⟨λj h=>by simp at h,.inl rfl⟩
 |y::l=>by
  obtain⟨h1,h2⟩:=uT x l
  have h3:=tp x l
  unfold fH
  split
  ·rename_i hp
   refine⟨λj hj _=>?_,.inl rfl⟩
   cases j with
   |zero=>exact hp.1
   |succ j=>exact h1 j (by simpa using hj) (by omega)
  ·rename_i hp
   refine⟨λj hj hle=>?_,.inr ⟨by simp;omega,?_⟩⟩
   ·cases j with
    |zero=>omega
    |succ j=>exact h1 j (by simpa using hj) (by omega)
   ·by_cases e:fH x l=0
    ·simp only[e,Nat.zero_add,Nat.sub_self,List.getElem_cons_zero]
     cases hb:qa x y with
     |false=>rfl
     |true=>exact absurd ⟨hb,e⟩ hp
    ·rcases h2 with h2|⟨h2,h4⟩
     ·exact absurd h2 e
     ·obtain⟨k,hk⟩:∃k,fH x l=k+1:=⟨fH x l-1,by omega⟩
      simp only[hk,Nat.add_sub_cancel]at h4 |-
      exact h4
theorem Ew(l:List Mt)(x:Mt):(gz l x).length=l.length+1:=by
 have:=tp x l
 unfold gz
 simp only[List.length_append,List.length_take,List.length_cons,List.length_drop]
 omega
theorem Ev(l:List Mt)(x y:Mt):y∈gz l x↔y=x\/y∈l:=by
 unfold gz
 rw[List.mem_append,List.mem_cons]
 constructor
 ·rintro(h|h|h)
  ·exact .inr (List.mem_of_mem_take h)
  ·exact .inl h
  ·exact .inr (List.mem_of_mem_drop h)
 ·rintro(h|h)
  ·exact .inr (.inl h)
  ·rw[<- List.take_append_drop (fH x l) l]at h
   rcases List.mem_append.1 h with h|h
   ·exact .inl h
   ·exact .inr (.inr h)
theorem Tv{l:List Mt}(hu:dh kr lz l){x:Mt}(hx:x∉l):dh kr lz (gz l x):=by
 obtain⟨h1,h2⟩:=uT x l
 have hle:=tp x l
 have Uq:∀(j:Nat) (h:j<l.length),j<fH x l->kr (lz l[j]) (lz x)<0:=λj h hj=>by
  rcases h2 with h2|⟨hl,h2⟩
  ·omega
  ·have e1:kr (lz l[fH x l-1]) (lz x)<0:=by
    have hf:=qg.flip (lz l[fH x l-1]) (lz x)
    have hz:kr (lz l[fH x l-1]) (lz x)≠0:=λe=>hx (CI ((qg.zero _ _).1 e)▸List.getElem_mem hl)
    have hz2:kr (lz x) (lz l[fH x l-1])≠0:=λe=>hx (CI ((qg.zero _ _).1 e)▸List.getElem_mem hl)
    have h3:¬kr (lz x) (lz l[fH x l-1])<0:=of_decide_eq_false h2
    omega
   by_cases e:j=fH x l-1
   ·subst e;exact e1
   ·exact qg.trans _ _ _ (List.pairwise_iff_getElem.1 hu j (fH x l-1) h hl (by omega)) e1
 unfold gz
 unfold dh at hu |-
 rw[List.pairwise_append,List.pairwise_cons]
 refine⟨hu.sublist (List.take_sublist _ _),⟨λy hy=>?_,hu.sublist (List.drop_sublist _ _)⟩,λa ha b hb=>?_⟩
 ·obtain⟨j,hj,rfl⟩:=List.mem_iff_getElem.1 hy
  rw[List.getElem_drop]
  simp only[List.length_drop]at hj
  exact of_decide_eq_true (h1 (fH x l+j) (by omega) (by omega))
 ·obtain⟨j,hj,rfl⟩:=List.mem_iff_getElem.1 ha
  rw[List.getElem_take]
  simp only[List.length_take]at hj
  have hjx:=Uq j (by omega) (by omega)
  rcases List.mem_cons.1 hb with rfl|hb
  ·exact hjx
  ·obtain⟨k,hk,rfl⟩:=List.mem_iff_getElem.1 hb
   rw[List.getElem_drop]
   simp only[List.length_drop]at hk
   exact List.pairwise_iff_getElem.1 hu j (fH x l+k) (by omega) (by omega) (by omega)
def cx(acc l:List Mt):List Mt:=l.foldl gz acc
theorem wH(acc l:List Mt)(x:Mt):cx acc (l++[x])=gz (cx acc l) x:=by unfold cx;rw[List.foldl_append];rfl
theorem zu(acc l l':List Mt):cx acc (l++l')=cx (cx acc l) l':=by unfold cx;rw[List.foldl_append]
theorem jW(acc:List Mt):∀l,(cx acc l).length=acc.length+l.length:=by
 intro l
 induction l generalizing acc with
 |nil=>rfl
 |cons x l ih=>
  show(cx (gz acc x) l).length=_
  rw[ih,Ew,List.length_cons];omega
theorem ee:∀(l acc:List Mt) (y:Mt),y∈cx acc l↔y∈acc\/y∈l
 |[],acc,y=>by simp[cx]
 |x::l,acc,y=>by
  show y∈cx (gz acc x) l↔_
  rw[ee l,Ev,List.mem_cons]
  constructor
  ·rintro((h|h)|h)
   ·exact .inr (.inl h)
   ·exact .inl h
   ·exact .inr (.inr h)
  ·rintro(h|h|h)
   ·exact .inl (.inr h)
   ·exact .inl (.inl h)
   ·exact .inr h
theorem vz:∀{l acc:List Mt},dh kr lz acc->l.Nodup->(∀m∈l,m∉acc)->dh kr lz (cx acc l)
 |[],acc,h,_,_=>h
 |x::l,acc,h,hn,hd=>by
  rw[List.nodup_cons]at hn
  show dh kr lz (cx (gz acc x) l)
  refine vz (Tv h (hd x (by simp))) hn.2 λm hm lS=>?_
  rcases(Ev _ _ _).1 lS with rfl|h2
  ·exact hn.1 hm
  ·exact hd m (by simp[hm]) h2
theorem Nj{l l':List Mt}(h:l.Nodup)(h':l'.Nodup)(hm:∀y,y∈l↔y∈l'):cx [] l=cx [] l':=
 dh.ext qg (vz List.Pairwise.nil h (by simp)) (vz List.Pairwise.nil h' (by simp)) λy=>by rw[ee,ee];simp[hm y]
theorem Tu{es:List av}(h:TT es)(ps:List Prod):cx [] ((mH [] ps).flatMap (jE es))=cx [] ((mH [] ps).flatMap (kp es)):=by
 refine Nj (rY (GP h) (λp m hm=>?_) (mG ps [])) (rY (HQ h) (λp m hm=>?_) (mG ps [])) λy=>?_
 ·unfold jE at hm;obtain⟨t,_,rfl⟩:=List.mem_map.1 hm;rfl
 ·unfold kp at hm;obtain⟨t,_,rfl⟩:=List.mem_map.1 hm;rfl
 ·simp only[List.mem_flatMap,Oi h]
theorem UT(a b:ByteArray):decide (bN a b<0)=Op.bytesLess a.toList b.toList:=by
 unfold bN
 cases h:Op.bytesLess a.toList b.toList with
 |true=>rfl
 |false=>cases k:aG a b<;>rfl
theorem YP{a b:Mt}(h:a.name≠b.name):qa a b=Op.bytesLess a.name.toList b.name.toList:=by
 have hn:¬bN (lz a).1 (lz b).1=0:=λe=>h ((dJ.zero _ _).1 e)
 unfold qa kr
 rw[if_neg hn]
 exact UT _ _
theorem PI{a b:Mt}(h:a.name=b.name):qa a b=iK a.tags b.tags:=by
 have hn:bN (lz a).1 (lz b).1=0:=(dJ.zero _ _).2 h
 unfold qa kr
 rw[if_pos hn]
 cases hl:iK a.tags b.tags with
 |true=>exact decide_eq_true ((qc _ _).1 hl)
 |false=>
  refine decide_eq_false λh2=>?_
  have h3:iK a.tags b.tags=true:=(qc _ _).2 h2
  rw[h3]at hl;cases hl
theorem RK(f1 f2:Fl)(a b:Mt)(ha:a.tags.length<=1000000)(hb:b.tags.length<=1000000):Pure prog 108 [.agg [pS a.name,.list 1 f1 (a.tags.map dU)],.agg [pS b.name,.list 1 f2 (b.tags.map dU)]] (pB (qa a b)):=by
 refine ax.of (pw.c (ae.mk (λh=>?_) (λh=>?_)))
 ·have bm:a.name≠b.name:=λe=>by
   have h2:(!aG a.name b.name)=true:=h
   rw[cf.2 e]at h2;cases h2
  rw[<- YP bm];rfl
 ·have he:a.name=b.name:=cf.1 (by simpa using h)
  refine(aat f1 f2 a.tags b.tags (by omega) (by omega)).call ⟨_,rfl,?_⟩
  rw[PI he];rfl
theorem WY(out:List Mt)(x:Mt)(f1 f2:Fl)(hl:out.length<=10000000)(hx:x.tags.length<=1000000)(ho:∀t∈out,t.tags.length<=1000000):Pure prog 54 [.list 2 f1 (out.map Mt.pv),.agg [pS x.name,.list 1 f2 (x.tags.map dU)]] (.list 2 .sh ((gz out x).map Mt.pv)):=by
 refine ax.of (um.c ?_)
 refine⟨λi' u'=>∃i:Nat,i'=(i:Int)/\i<=out.length/\(∀(j:Nat) (h:j<out.length),i<=j->qa x out[j]=true)/\(i=0\/∃h:i-1<out.length,qa x out[i-1]=false)/\u'=M0,?_,?_⟩
 ·rw[List.length_map]
  refine aj.down (n:=out.length) (k:=0) (by omega) (by omega) (λi u'=>(∀(j:Nat) (h:j<out.length),i<=j->qa x out[j]=true)/\u'=M0) ⟨λj h1 h2=>by omega,rfl⟩ ?_ ?_
  ·rintro j u' EM h0 hj ⟨d_,rfl⟩ mE
   have e1:IntKind.wrap .i64 ((j:Int)-1)=((j-1:Nat):Int):=by rw[aB (by omega) (by omega)];omega
   rw[e1]at mE |-
   refine ae.t (by simpa using h0) ⟨by omega,_,aI (show j-1<out.length by omega),_,_,_,rfl,?_⟩
   refine(RK .sh .sh x out[j-1] hx (ho _ (List.getElem_mem (show j-1<out.length by omega)))).call ⟨_,rfl,ae.mk (λh=>?_) (λh=>?_)⟩
   ·refine mE _ ⟨λq hq hjq=>?_,rfl⟩
    by_cases e:q=j-1
    ·subst e;exact h
    ·exact d_ q hq (by omega)
   ·exact⟨j,rfl,hj,d_,.inr ⟨by omega,h⟩,rfl⟩
  ·rintro u' EM ⟨d_,rfl⟩
   exact ae.f (by simp) ⟨0,rfl,by omega,d_,.inl rfl,rfl⟩
 ·rintro _ _ ⟨i,rfl,hi,d_,h0,rfl⟩
  rw[List.length_map]
  have hO:Ow [] M0:=trivial
  have t1:List.drop (Int.toNat (0:Int)) (List.take (Int.toNat (i:Int)) (out.map Mt.pv))=(out.take i).map Mt.pv:=by
   rw[Int.toNat_natCast,List.map_take];rfl
  have t2:List.drop (Int.toNat (i:Int)) (List.take (Int.toNat ((out.length:Nat):Int)) (out.map Mt.pv))=(out.drop i).map Mt.pv:=by
   rw[Int.toNat_natCast,Int.toNat_natCast,List.map_drop,List.take_of_length_le (by simp)]
  rw[t1,t2]
  refine⟨by omega,by omega,by omega,?_⟩
  refine Ow.ae1 hO (by simp;omega) (by simp;omega) λg1 u2 h2=>?_
  refine h2.app (by simp) (by simp;omega) (by simp;omega) λg2 u3 h3=>⟨by omega,by omega,by omega,?_⟩
  refine h3.app (by simp) (by simp;omega) (by simp;omega) λg3 u4 h4=>?_
  rw[<- Cm hi d_ h0]
  show PV.list 2 .sh _=_
  congr 1
  rw[List.map_append,List.map_cons,List.nil_append,List.append_assoc];rfl
theorem alZ{es:List av}{B:Int}(hB:0<=B/\B<=1000000)(vg:es.length<=100000)(bm:TT es){p:Prod}(hp:Gm p)(fc fa fe:Fl):
  ax prog 53 [.agg [pS p.name,.list 7 fc (p.conds.map an.pv),.list 19 fa (p.dW.map kt.pv)],.list 12 fe (es.map av.pv),pI B] λv=>v=.aC [.list 2 .sh [],pB false]\/v=.aC [.list 2 .sh ((kp es p).map Mt.pv),pB true]/\(kp es p).length<=1000001/\∀m∈kp es p,m.tags.length<=900000:=by
 obtain⟨g1,_,_,g4,_⟩:=hp.facts
 refine ax.of (vG.c (pq.c λb hb=>?_))
 have hO:Ow [] M0:=trivial
 refine aex hB (by omega) g1 hp.knd g4 .sh _ (hO.new _ _ hb) λf1 o N cv out u1 h1 h2 hN hl ht MI=>⟨_,_,rfl,_,_,_,rfl,?_⟩
 obtain⟨a,c,wR⟩:=nz.open_ MI
 refine⟨_,wR.rd 0 rfl (by simp),ae.mk (λ_=>.inl rfl) (λho=>?_)⟩
 obtain⟨_,dH,_⟩:=h1 ho
 have Qm:neT out:=by rw[dH];exact pM bm _
 refine aj.ed (n:=out.length) (by omega) (λk s u=>∃l:List cA,s.2=l.map (λt=>Mt.pv ⟨p.name,t.tags⟩)/\l.length=k/\(∀t∈l,t∈out.take k)/\l=kS (out.take k)/\u=u1) ⟨[],rfl,rfl,by simp,rfl,rfl⟩ ?_ ?_
 ·rintro k ⟨f,_⟩ u next hk ⟨l,rfl,xu,gp,hs,rfl⟩ ar
  refine ae.t (by simpa using hk) ⟨by omega,_,aI hk,_,_,rfl,?_⟩
  have ir:out.take (k+1)=out.take k++[out[k]]:=by rw[List.take_add_one,List.getElem?_eq_getElem hk];rfl
  have hpw:neT (out.take k++[out[k]]):=by rw[<- ir];exact Qm.sublist (List.take_sublist _ _)
  obtain⟨q1,_,q3⟩:=List.pairwise_append.1 hpw
  obtain⟨m1,m2⟩:=sW q1
  have Ia:gz (l.map λt=>⟨p.name,t.tags⟩) ⟨p.name,out[k].tags⟩=(kS (out.take (k+1))).map λt=>⟨p.name,t.tags⟩:=by
   rw[ir,LF,hs]
   have qv:∀t∈kS (out.take k),t.tags≠out[k].tags:=λt h=>q3 t ((m2 t).1 h) _ (by simp)
   obtain⟨p1,p2⟩:=uT ⟨p.name,out[k].tags⟩ ((kS (out.take k)).map λt=>(⟨p.name,t.tags⟩:Mt))
   have hle:=tp ⟨p.name,out[k].tags⟩ ((kS (out.take k)).map λt=>(⟨p.name,t.tags⟩:Mt))
   have lt:∀a b:List Int,qa ⟨p.name,a⟩ ⟨p.name,b⟩=true↔bz a b<0:=λa b=>by rw[PI (a:=⟨p.name,a⟩) (b:=⟨p.name,b⟩) rfl];exact qc _ _
   unfold gz
   rw[List.length_map]at hle
   have q1:∀(j:Nat) (h:j<(kS (out.take k)).length),fH ⟨p.name,out[k].tags⟩ ((kS (out.take k)).map λt=>(⟨p.name,t.tags⟩:Mt))<=j->bz out[k].tags (kS (out.take k))[j].tags<0:=λj h Ah=>by
    have:=p1 j (by simpa using h) Ah
    rw[List.getElem_map]at this
    exact(lt _ _).1 this
   have q0:fH ⟨p.name,out[k].tags⟩ ((kS (out.take k)).map λt=>(⟨p.name,t.tags⟩:Mt))=0\/∃h:fH ⟨p.name,out[k].tags⟩ ((kS (out.take k)).map λt=>(⟨p.name,t.tags⟩:Mt))-1<(kS (out.take k)).length,¬bz out[k].tags (kS (out.take k))[fH ⟨p.name,out[k].tags⟩ ((kS (out.take k)).map λt=>(⟨p.name,t.tags⟩:Mt))-1].tags<0:=by
    rcases p2 with p2|⟨h,p2⟩
    ·exact .inl p2
    ·refine .inr ⟨by simpa using h,λh2=>?_⟩
     rw[List.getElem_map,(lt _ _).2 h2]at p2
     cases p2
   rw[<- YV m1 hle qv q1 q0,List.map_append,List.map_cons,List.map_take,List.map_drop]
  have e0:l.map (λt=>Mt.pv ⟨p.name,t.tags⟩)=(l.map λt=>(⟨p.name,t.tags⟩:Mt)).map Mt.pv:=by rw[List.map_map];rfl
  rw[e0]
  refine(WY (l.map λt=>⟨p.name,t.tags⟩) ⟨p.name,out[k].tags⟩ f .sh (by simp;omega) (by have:=ht _ (List.getElem_mem hk);simp;omega) (λt h=>?_)).call ?_
  ·obtain⟨t',h',rfl⟩:=List.mem_map.1 h
   have:=ht t' (List.mem_of_mem_take (gp t' h'));simp;omega
  rw[Ia]
  refine⟨_,_,rfl,ar _ _ ⟨kS (out.take (k+1)),?_,?_,λt h=>?_,rfl,rfl⟩⟩
  ·rw[List.map_map];rfl
  ·have:=congrArg List.length Ia
   rw[Ew,List.length_map,List.length_map]at this
   omega
  ·exact((sW (by rw[ir];exact hpw)).2 t).1 h
 ·rintro⟨f,_⟩ u next ⟨l,rfl,xu,gp,hs,rfl⟩
  rw[List.take_length]at hs
  refine ae.f (by simp) (.inr ⟨?_,?_,?_⟩)
  ·have e:l.map (λt=>Mt.pv ⟨p.name,t.tags⟩)=(kp es p).map Mt.pv:=by
    unfold kp Lu
    rw[hs,dH,List.map_map];rfl
   rw[e];rfl
  ·unfold kp Lu
   rw[List.length_map,<- dH,<- hs];omega
  ·intro m hm
   unfold kp Lu at hm
   rw[<- dH,<- hs]at hm
   obtain⟨t,h,rfl⟩:=List.mem_map.1 hm
   have:=gp t h
   exact ht t (List.mem_of_mem_take this)
noncomputable def et(es:List av)(ps:List Prod):List Mt:=cx [] ((mH [] ps).flatMap (kp es))
open Classical in
theorem FD{ps:List Prod}{k:Nat}(hk:k<ps.length):mH [] (ps.take (k+1))=mH [] (ps.take k)++(if ∃q∈ps.take k,q.name=ps[k].name then[]else[ps[k]]):=by
 rw[List.take_add_one,List.getElem?_eq_getElem hk]
 show mH [] (ps.take k++[ps[k]])=_
 rw[vi]
 simp
theorem IH{es:List av}(vg:es.length<=100000)(bm:TT es){ps:List Prod}(hl:ps.length<=8)(hp:∀p∈ps,Gm p)(fp fe:Fl):
  ax prog 14 [.list 3 fp (ps.map Prod.pv),.list 12 fe (es.map av.pv)] λv=>v=.aC [.list 2 .sh [],pB false]\/v=.aC [.list 2 .sh ((et es ps).map Mt.pv),pB true]/\(et es ps).length<=10000000/\∀m∈et es ps,m.tags.length<=900000:=by
 refine ax.of (nA.c ?_)
 refine aj.ed (n:=ps.length) (by omega) (λk s u=>s.2=(et es (ps.take k)).map Mt.pv/\(et es (ps.take k)).length<=1000001*k/\∀m∈et es (ps.take k),m.tags.length<=900000) ⟨rfl,by simp[et,cx,mH],by simp[et,cx,mH]⟩ ?_ ?_
 ·rintro k ⟨f,_⟩ u next hk ⟨rfl,hlen,Mp⟩ ar
  have hkp:k<8:=by omega
  refine ae.t (by simpa using hk) ?_
  refine aj.ed (n:=k) (by omega) (λj b u=>b=true↔¬ ∃q∈ps.take j,q.name=ps[k].name) (by simp) ?_ ?_
  ·rintro j b u1 EM hj hb mE
   have hjl:j<ps.length:=by omega
   refine ae.t (by simpa using hj) (ae.mk (λh=>?_) (λh=>mE _ _ ?_))
   ·refine⟨by omega,_,aI hjl,_,rfl,by omega,_,aI hk,_,rfl,mE _ _ ?_⟩
    rw[List.take_add_one,List.getElem?_eq_getElem hjl]
    have jO:=hb.1 h
    simp only[Option.toList_some,List.mem_append,List.mem_singleton,Bool.not_eq_true',Bool.not_eq_true]
    constructor
    ·rintro h1 ⟨q,hq|rfl,e⟩
     ·exact jO ⟨q,hq,e⟩
     ·rw[e,rq]at h1;cases h1
    ·intro h1
     cases h2:aG ps[j].name ps[k].name with
     |false=>rfl
     |true=>exact absurd ⟨ps[j],.inr rfl,cf.1 h2⟩ h1
   ·constructor
    ·intro h1;cases h1
    ·intro h1
     refine absurd ?_ (Bool.eq_false_iff.1 h)
     refine hb.2 λ⟨q,hq,e⟩=>h1 ⟨q,?_,e⟩
     rw[List.take_add_one];exact List.mem_append_left _ hq
  ·rintro b u1 EM hb
   have iu:=FD hk
   refine ae.f (by simp) (ae.mk (λh=>ar _ _ ?_) (λh=>?_))
   ·have hx:∃q∈ps.take k,q.name=ps[k].name:=Classical.byContradiction λhn=>by
     rw[hb.2 hn]at h;cases h
    have e:et es (ps.take (k+1))=et es (ps.take k):=by
     unfold et;rw[iu,if_pos hx,List.append_nil]
    rw[e];exact⟨rfl,by omega,Mp⟩
   ·have hx:¬ ∃q∈ps.take k,q.name=ps[k].name:=hb.1 (by simpa using h)
    have e:et es (ps.take (k+1))=cx (et es (ps.take k)) (kp es ps[k]):=by
     unfold et;rw[iu,if_neg hx,List.flatMap_append,zu];simp
    refine⟨by omega,_,aI hk,_,_,_,_,_,rfl,?_⟩
    refine ax.call (alZ (B:=3000) (by omega) vg bm (hp _ (List.getElem_mem hk)) .sh .sh _) ?_
    rintro v (rfl|⟨rfl,uE,hmt⟩)
    ·exact⟨_,_,_,rfl,ae.t rfl (.inl rfl)⟩
    ·refine⟨_,_,_,rfl,ae.f rfl ?_⟩
     refine aj.ed (n:=(kp es ps[k]).length) (by omega) (λj s u=>s.2=(cx (et es (ps.take k)) ((kp es ps[k]).take j)).map Mt.pv) rfl ?_ ?_
     ·rintro j ⟨f2,_⟩ u2 dS hj rfl cR
      have e1:(kp es ps[k]).take (j+1)=(kp es ps[k]).take j++[(kp es ps[k])[j]]:=by rw[List.take_add_one,List.getElem?_eq_getElem hj];rfl
      have hlj:=jW (et es (ps.take k)) ((kp es ps[k]).take j)
      rw[List.length_take]at hlj
      refine ae.t (by simpa using hj) ⟨by omega,_,aI hj,_,_,_,rfl,?_⟩
      refine(WY _ (kp es ps[k])[j] f2 .sh (by omega) (by have:=hmt _ (List.getElem_mem hj);omega) (λt h=>?_)).call ⟨_,_,rfl,cR _ _ ?_⟩
      ·rcases(ee _ _ _).1 h with h|h
       ·have:=Mp _ h;omega
       ·have:=hmt _ (List.mem_of_mem_take h);omega
      ·rw[e1,wH]
     ·rintro⟨f2,_⟩ u2 dS rfl
      rw[List.take_length,<- e]
      refine ae.f (by simp) (ar _ _ ⟨rfl,?_,λm hm=>?_⟩)
      ·rw[e,jW];omega
      ·rw[e]at hm
       rcases(ee _ _ _).1 hm with h|h
       ·exact Mp _ h
       ·exact hmt _ h
 ·rintro⟨f,_⟩ u next ⟨rfl,hlen,Mp⟩
  rw[List.take_length]at hlen Mp |-
  exact ae.f (by simp) (.inr ⟨rfl,by omega,Mp⟩)
theorem yn(l:List Mt):∀r∈l.map Mt.pv,r.length=2:=nY (pv:=Mt.pv) (λ_=>rfl) l
theorem aeR(f1 f2:Fl)(a b:Mt)(ha:a.tags.length<=1000000)(hb:b.tags.length<=1000000):ax prog 66 [.agg [pS a.name,.list 1 f1 (a.tags.map dU)],.agg [pS b.name,.list 1 f2 (b.tags.map dU)]] λp=>∃c:Int,p=pI c/\(c<0↔kr (lz a) (lz b)<0)/\(c=0↔a=b):=by
 have fin:∀c:Int,(c<0↔kr (lz a) (lz b)<0)->(c=0↔kr (lz a) (lz b)=0)->∃c':Int,pI c=pI c'/\(c'<0↔kr (lz a) (lz b)<0)/\(c'=0↔a=b):=λc h1 h2=>
  ⟨c,rfl,h1,h2.trans ((qg.zero _ _).trans ⟨λe=>CI e,λe=>by rw[e]⟩)⟩
 have ec:kr (lz a) (lz b)=if bN a.name b.name=0 then bz a.tags b.tags else bN a.name b.name:=rfl
 refine ax.of (nD.c (ae.mk (λh=>?_) (λh=>ae.mk (λh1=>?_) (λh1=>?_))))
 ·have e:bN a.name b.name= -1:=by unfold bN;rw[h];rfl
  have e2:kr (lz a) (lz b)= -1:=by rw[ec,e];rfl
  exact fin (-1) (by rw[e2]) (by rw[e2])
 ·have e:bN a.name b.name=1:=by unfold bN;rw[h1,h];rfl
  have e2:kr (lz a) (lz b)=1:=by rw[ec,e];rfl
  exact fin 1 (by rw[e2]) (by rw[e2])
 ·have e:bN a.name b.name=0:=by unfold bN;rw[h1,h];rfl
  have e2:kr (lz a) (lz b)=bz a.tags b.tags:=by rw[ec,if_pos e]
  refine⟨λ_ _=>∃k,k<=a.tags.length/\k<=b.tags.length/\a.tags.take k=b.tags.take k/\(k=a.tags.length\/k=b.tags.length),?_,?_⟩
  ·rw[List.length_map,List.length_map]
   refine aj.each (n:=a.tags.length) (by omega) (λk u=>k<=b.tags.length/\a.tags.take k=b.tags.take k) ⟨by omega,rfl⟩ ?_ ?_
   ·rintro k u next hk ⟨h2,h3⟩ ar
    refine ae.t (by simpa using hk) (ae.mk (λMA=>?_) (λMA=>⟨k,by omega,h2,h3,.inr (by have:=of_decide_eq_false MA;omega)⟩))
    have MA:k<b.tags.length:=by have:=of_decide_eq_true MA;omega
    have hda:a.tags.drop k=a.tags[k]::a.tags.drop (k+1):=List.drop_eq_getElem_cons hk
    have hdb:b.tags.drop k=b.tags[k]::b.tags.drop (k+1):=List.drop_eq_getElem_cons MA
    have hr:bz a.tags b.tags=if a.tags[k]=b.tags[k]then bz (a.tags.drop (k+1)) (b.tags.drop (k+1))else a.tags[k]-b.tags[k]:=by
     rw[xS k _ _ (by omega) h2 h3,hda,hdb];rfl
    refine⟨by omega,_,aI hk,_,rfl,by omega,_,aI MA,_,rfl,ae.mk (λh4=>?_) (λh4=>⟨by omega,_,aI hk,_,rfl,by omega,_,aI MA,_,rfl,ae.mk (λh5=>?_) (λh5=>ar _ ⟨by omega,?_⟩)⟩)⟩
    ·have h4:=of_decide_eq_true h4
     rw[if_neg (by omega)]at hr
     exact fin (-1) (by rw[e2,hr];omega) (by rw[e2,hr];omega)
    ·have h5:=of_decide_eq_true h5
     rw[if_neg (by omega)]at hr
     exact fin 1 (by rw[e2,hr];omega) (by rw[e2,hr];omega)
    ·have h4:=of_decide_eq_false h4
     have h5:=of_decide_eq_false h5
     rw[List.take_add_one,List.take_add_one,h3,List.getElem?_eq_getElem hk,List.getElem?_eq_getElem MA,show a.tags[k]=b.tags[k] by omega]
   ·rintro u next ⟨h2,h3⟩
    exact ae.f (by simp) ⟨a.tags.length,by omega,h2,h3,.inl rfl⟩
  ·rintro _ u ⟨k,h2,h3,h4,h5⟩
   have hr:=xS k _ _ h2 h3 h4
   have hw:IntKind.wrap .i64 (((List.length (a.tags.map dU):Nat):Int)-((List.length (b.tags.map dU):Nat):Int))=(a.tags.length:Int)-(b.tags.length:Int):=by rw[List.length_map,List.length_map,aB (by omega) (by omega)]
   have GC:bz a.tags b.tags=(a.tags.length:Int)-(b.tags.length:Int):=by
    rw[hr]
    rcases h5 with h5|h5
    ·rw[h5,List.drop_length]
     show-((b.tags.drop a.tags.length).length:Int)=_
     rw[List.length_drop];omega
    ·rw[h5,List.drop_length]
     cases hd:a.tags.drop b.tags.length with
     |nil=>
      have:=congrArg List.length hd
      simp only[List.length_drop,List.length_nil]at this
      show-(([]:List Int).length:Int)=_
      simp only[List.length_nil];omega
     |cons y m=>
      have:=congrArg List.length hd
      simp only[List.length_drop,List.length_cons]at this
      show((y::m).length:Int)=_
      simp only[List.length_cons];omega
   rw[hw]
   exact fin _ (by rw[e2,GC]) (by rw[e2,GC])
theorem aeS{L:List bk}{μ:Mem}(l:List Mt)(x:Mt){a:Option Addr}{n c:Nat}(hl:l.length<=100000000)(hx:x.tags.length<=1000000)(ht:∀t∈l,t.tags.length<=1000000)(hO:Ow (jD 118 2 (pV a n c) (l.map Mt.pv)::L) μ){K:Kq}
  (hk:∀a' c' μ',Ow (jD 118 2 (pV a' (l.length+1) c') ((gz l x).map Mt.pv)::L) μ'->K (pV a' (l.length+1) c') μ'):ab prog 59 [pV a n c,.agg [pS x.name,.list 1 .sh (x.tags.map dU)]] μ K:=by
 refine DC.c ?_
 obtain⟨a',c',e,jQ⟩:=jD.app hO (yn l)
 simp only[PV.raw.injEq,Value.slice.injEq,List.length_map]at e jQ
 obtain⟨rfl,rfl,rfl⟩:=e
 refine jQ _ _ _ rfl rfl (by omega) (by omega) λb2 c2 u2 wR=>?_
 have e1:IntKind.wrap .i64 (((l.length+1:Nat):Int)-1)=((l.length:Nat):Int):=by rw[aB (by omega) (by omega)];omega
 rw[e1]
 refine aj.down (n:=l.length) (k:=0) (Nat.zero_le _) (by omega) (λi u=>(∀(j:Nat) (h:j<l.length),i<=j->qa x l[j]=true)/\Ow (jD 118 2 (pV (some ⟨b2,0,none⟩) (l.length+1) c2) ((l.take i++x::l.drop i).map Mt.pv)::L) u) ⟨λj h1 h2=>by omega,?_⟩ ?_ ?_
 ·rw[List.take_length,List.drop_length,List.map_append];exact wR
 ·rintro j u next h0 hj ⟨d_,MH⟩ ar
  have hlen:((l.take j++x::l.drop j).map Mt.pv).length=l.length+1:=by rw[List.length_map,kJ]
  obtain⟨b3,e3,eF,_⟩:=jD.at_ 0 MH rfl (yn _) (j:=j-1) (by rw[hlen];omega)
  simp only[Option.some.injEq,Addr.mk.injEq]at e3
  obtain⟨rfl,_⟩:=e3
  obtain⟨b4,e4,_,iu⟩:=jD.at_ 0 MH rfl (yn _) (j:=j) (by rw[hlen];omega)
  simp only[Option.some.injEq,Addr.mk.injEq]at e4
  obtain⟨rfl,_⟩:=e4
  have ej:IntKind.wrap .i64 ((j:Int)-1)=((j-1:Nat):Int):=by rw[aB (by omega) (by omega)];omega
  rw[ej]at ar |-
  have nG:=Qc (pv:=Mt.pv) l j x h0 hj
  have adN:∀u',u'=u->aN u' b2 (0+Int.toNat ((j-1:Nat):Int)*2) 2=some (Mt.pv (l[j-1]'(by omega))):=λu' e=>by
   subst e
   rw[Int.toNat_natCast]
   have:=eF 0 2 (by omega)
   rw[(List.getElem?_eq_some_iff.1 nG).2]at this
   exact this
  refine ae.t (by simpa using h0) ⟨by omega,by omega,_,.sh,(l[j-1]'(by omega)).tags.map dU,adN u rfl,?_⟩
  refine ax.call (aeR .sh .sh x (l[j-1]'(by omega)) hx (ht _ (List.getElem_mem _))) ?_
  rintro _ ⟨cc,rfl,WE,hc2⟩
  refine⟨_,rfl,ae.mk (λh=>?_) (λh=>?_)⟩
  ·have bB:qa x (l[j-1]'(by omega))=true:=decide_eq_true (WE.1 (of_decide_eq_true h))
   simp only[and_true,and_self]
   refine⟨by omega,by omega,_,.sh,(l[j-1]'(by omega)).tags.map dU,adN u rfl,by omega,by omega,?_⟩
   have ew:∀(r:List PV) (y:Mt),r.length=2->ei r 0 y.pv=y.pv:=λr y hr=>by
    unfold ei;simp[hr]
   rw[Int.toNat_natCast,Int.toNat_natCast]
   refine iu 0 _ _ (by simp) λu4 hO4=>⟨by omega,by omega,?_⟩
   have hO4:Ow (jD 118 2 (pV (some ⟨b2,0,none⟩) (l.length+1) c2) (((l.take j++x::l.drop j).map Mt.pv).set j (ei _ 0 (l[j-1]'(by omega)).pv))::L) u4:=hO4
   rw[ew _ _ (yn _ _ (List.getElem_mem _)),EZ (pv:=Mt.pv) l j x (by omega) hj]at hO4
   have Ws:((l.take (j-1)++(l[j-1]'(by omega))::l.drop (j-1)).map Mt.pv).length=l.length+1:=by rw[List.length_map,kJ]
   obtain⟨b5,e5,_,aky⟩:=jD.at_ 0 hO4 rfl (yn _) (j:=j-1) (by rw[Ws];omega)
   simp only[Option.some.injEq,Addr.mk.injEq]at e5
   obtain⟨rfl,_⟩:=e5
   refine aky 0 _ _ (by simp) λu5 hO5=>?_
   have hO5:Ow (jD 118 2 (pV (some ⟨b2,0,none⟩) (l.length+1) c2) (((l.take (j-1)++(l[j-1]'(by omega))::l.drop (j-1)).map Mt.pv).set (j-1) (ei _ 0 x.pv))::L) u5:=hO5
   rw[ew _ _ (yn _ _ (List.getElem_mem _)),Kn (pv:=Mt.pv) l (j-1) x _ (by omega)]at hO5
   refine ar _ ⟨λq hq hjq=>?_,hO5⟩
   by_cases e:q=j-1
   ·subst e;exact bB
   ·exact d_ q hq (by omega)
  ·have bB:qa x (l[j-1]'(by omega))=false:=decide_eq_false λh2=>by
    have h3:=WE.2 h2
    exact absurd h3 (of_decide_eq_false h)
   refine hk _ _ _ ?_
   rw[<- Cm hj d_ (.inr ⟨by omega,bB⟩)]
   exact MH
 ·rintro u next ⟨d_,MH⟩
  refine ae.f (by simp) (hk _ _ _ ?_)
  rw[<- Cm (Nat.zero_le _) d_ (.inl rfl)]
  exact MH
abbrev zc(c:an):List PV:=[pI c.kind,pB c.goal,pS c.id,.list 6 .sh (c.attr.map Test.pv),.list 6 .sh (c.value.map Test.pv),pB c.acc,.list 7 .sh (c.conds.map an.pv)]
@[reducible] def VU(c:an)(l:List az.Bind)(es:PV):PV:=.fn (.func 222) [] [.bl [es] 0,.bl (zc c) 0,.bl [.list 4 .sh (l.map Bind.pv)] 0]
theorem WW(fe:Fn)(fa fb:List PV)(c:an)(f1 f2 f3 fl:Fl)(l:List az.Bind)(hn:l.length<=1000000):Pure prog 160 [.agg [pI c.kind,pB c.goal,pS c.id,.list 6 f1 (c.attr.map Test.pv),.list 6 f2 (c.value.map Test.pv),pB c.acc,.list 7 f3 (c.conds.map an.pv)],.fn fe fa fb,.list 4 fl (l.map Bind.pv)] (VU c l (.fn fe fa fb)):=by
 refine ab.freeze (K:=λv μ'=>∃b5,v=.fn (.func 222) [] [.bl [.fn fe fa fb] 0,.bl (zc c) 0,pP b5 0]/\μ' b5=some (.cells 183 [.list 4 .sh (l.map Bind.pv)])) (Gp.c λb5 Sv=>?_) ?_
 ·have O1:=(Ow.new (L:=[]) 183 [.list 4 fl (l.map Bind.pv)] trivial Sv)
  refine⟨_,_,O1.rd 0 rfl (by simp),(IF _ l (by omega)).call ⟨_,_,rfl,O1.st 0 rfl (by simp) λu2 O2=>⟨b5,rfl,O2.get 0 rfl⟩⟩⟩
 ·rintro v μ' ⟨b5,rfl,hb⟩
  refine⟨_,M0,[b5],λZ u r hg hr=>?_,λb o h=>(by cases h),rfl⟩
  obtain⟨fv,cv,rfl,h1,h2⟩:=hr.ofFn
  obtain⟨v1,_,rfl,_,q1,h2⟩:=h2.inv
  obtain⟨v2,_,rfl,_,q2,h2⟩:=h2.inv
  obtain⟨v3,_,rfl,_,q3,h2⟩:=h2.inv
  obtain rfl:=h2.cW
  obtain rfl:=h1.cW
  have gs:az.Good Z u (λx=>if x∈[b5]then μ' x else none):=hg.sub λx o hx=>by
   by_cases hm:x∈[b5]
   ·simpa[hm]using hx
   ·simp[hm]at hx
  have hle:=iF gs
  exact bj.DW (bj.nil _) (bj.cons rfl (q1.mono hle) (bj.cons rfl (q2.mono hle) (bj.cons rfl (ZQ hg hb rfl q3) (bj.nil _))))
@[reducible] def VT(x:av×List az.Bind):List PV:=[.agg x.1.pv,.list 4 .sh (x.2.map Bind.pv)]
theorem Eh{c:an}{l:List az.Bind}{es:List av}{fe:Fn}{fa fb:List PV}{A A':bk}(hs:jY prog (.fn fe fa fb) (es.map λe=>[.agg e.pv]) A A')(hn:l.length+1+c.attr.length+c.value.length<=1000000)(ha:∀t∈c.attr,t.list.length<=1000000)(hv:∀t∈c.value,t.list.length<=1000000):
  jY prog (VU c l (.fn fe fa fb)) ((bf c l es).map VT) A A':=by
 refine jY.mk λfy ya yb I S C μ hy hO h0 cQ=>?_
 show ab _ _ [.fn fy ya yb,.bl [.fn fe fa fb] 0,.bl (zc c) 0,.bl [.list 4 .sh (l.map Bind.pv)] 0] _ _
 refine Ay.c λb4 hb4=>⟨_,_,_,rfl,_,_,_,rfl,?_⟩
 have O1:=hO.new 406 [.fn fy ya yb] hb4
 refine bJ.own hs O1.swap (λk u=>Ow [Pt b4 406 [.fn fy ya yb],I (bf c l (es.take k)).length] u) (λcd u=>cd=.ret/\Ow [S] u) (λk=>eG.own _) (λcd=>eG.and (eG.own _)) (λμ' h'=>?_) ?_ ?_ ?_
 ·have h2:=h'.swap.tail h0
  simpa[bf]using h2
 ·intro k hk u R hI dF oM
  have eQ:k<es.length:=by simpa using hk
  rw[List.getElem_map]
  have ir:=mj (c:=c) (l:=l) (es:=es) eQ
  refine⟨_,_,_,_,_,_,_,_,_,_,_,_,rfl,_,_,_,_,_,_,_,_,_,_,rfl,_,_,rfl,?_⟩
  refine(aaG .sh .sh .sh .sh c es[k] l hn ha hv).call ?_
  cases hc:dx c es[k] l with
  |none=>
   refine⟨_,_,_,rfl,ae.f rfl (dF _ ?_)⟩
   rw[ir,hc];simpa using hI
  |some r=>
   refine⟨_,_,_,rfl,ae.t rfl ⟨_,_,_,hI.rd 0 rfl (by simp),?_⟩⟩
   obtain⟨hj,nG⟩:=OL eQ hc
   have MB:(bf c l (es.take k)).length<((bf c l es).map VT).length:=by simpa using hj
   have iu:∀ν,I (bf c l (es.take k)).length ν->bc prog (.fn fy ya yb) [.agg es[k].pv,.list 4 .sh (r.map Bind.pv)] ν λv μ'=>(v=pB true/\Ow [I ((bf c l (es.take k)).length+1)] μ')\/(v=pB false/\Ow [S] μ'):=λν hν=>by
    have h:=cQ _ MB ν hν
    rw[List.getElem_map,nG]at h
    exact h
   refine Ow.FU hI.swap iu λp u2 h3=>?_
   ·rcases Ow.B_ (A:=I ((bf c l (es.take k)).length+1)) (B:=S) h3 with⟨rfl,h4⟩|⟨rfl,h4⟩
    ·refine⟨_,rfl,ae.f rfl (dF _ ?_)⟩
     rw[ir,hc]
     simpa using h4.swap
    ·exact⟨_,rfl,ae.t rfl (oM _ _ ⟨rfl,h4.swap.drop⟩)⟩
 ·intro u hI
  simp only[List.length_map]at hI |-
  rw[List.take_length]at hI
  exact .inl hI.drop
 ·rintro cd u ⟨rfl,h⟩
  exact .inr h
@[reducible] def JC(f g:Fl)(t:cA):List PV:=[.list 1 f (t.tags.map dU),.list 4 g (t.binds.map Bind.pv)]
def SY(t:cA):List PV->bk:=λvs _=>∃f g,vs=JC f g t
def YT(fy:Fn)(ya yb:List PV)(I:Nat->bk)(S:bk)(ts:List cA):Prop:=∀(k:Nat) (h:k<ts.length) (f g:Fl) (μ:Mem),I k μ->bc prog (.fn fy ya yb) (JC f g ts[k]) μ λv μ'=>(v=pB true/\Ow [I (k+1)] μ')\/(v=pB false/\Ow [S] μ')
theorem KB{α β:Type}(F:α->List β):∀(A:List α) (k:Nat) (hk:k<A.length) (j:Nat) (hj:j<(F A[k]).length),∃h:((A.take k).flatMap F).length+j<(A.flatMap F).length,(A.flatMap F)[((A.take k).flatMap F).length+j]=(F A[k])[j]
 |a::A,0,hk,j,hj=>by
  have MB:j<(F a).length:=hj
  refine⟨by simp;omega,?_⟩
  simp only[List.take_zero,List.flatMap_nil,List.length_nil,Nat.zero_add,List.flatMap_cons,List.getElem_cons_zero]
  rw[List.getElem_append_left MB]
 |a::A,k+1,hk,j,hj=>by
  have eQ:k<A.length:=by simpa using hk
  obtain⟨h,e⟩:=KB F A k eQ j hj
  have e2:(List.flatMap F (List.take (k+1) (a::A))).length+j=(F a).length+(((A.take k).flatMap F).length+j):=by simp;omega
  refine⟨by rw[e2];simp only[List.flatMap_cons,List.length_append];omega,?_⟩
  simp only[e2,List.flatMap_cons]
  rw[List.getElem_append_right (by omega)]
  simp only[Nat.add_sub_cancel_left,List.getElem_cons_succ]
  exact e
theorem qf{α β:Type}(F:α->List β){A:List α}{k:Nat}(hk:k<A.length):((A.take (k+1)).flatMap F).length=((A.take k).flatMap F).length+(F A[k]).length:=by
 rw[List.take_add_one,List.getElem?_eq_getElem hk,List.flatMap_append];simp
@[reducible] def VX(l:List an)(es:List av)(tags:List Int)(b:List az.Bind):PV:=.fn (.func 111) [] [.bl [.list 7 .sh (l.map an.pv)] 0,.bl [.list 12 .sh (es.map av.pv)] 0,.bl [.list 1 .sh (tags.map dU)] 0,.bl [.list 4 .sh (b.map Bind.pv)] 0]
theorem KO(f0 f1 f2 f3:Fl)(l:List an)(es:List av)(tags:List Int)(b:List az.Bind):Pure prog 58 [.list 7 f0 (l.map an.pv),.list 12 f1 (es.map av.pv),.list 1 f2 (tags.map dU),.list 4 f3 (b.map Bind.pv)] (VX l es tags b):=ax.of (DA.c rfl)
def Jr(es:List av)(l:List an):Prop:=∀(t:cA) (f0 f1 f2 f3:Fl) (fy:Fn) (ya yb:List PV) (I:Nat->bk) (S:bk) (L:List bk) (μ:Mem) (K:Kq),t.tags.length+l.length<=1000000->t.binds.length+100*ao l<=900000->qy fy True->YT fy ya yb I S (aH es l [t])->Ow (I 0::L) μ->
 (∀v μ',((v=pB true/\Ow (I (aH es l [t]).length::L) μ')\/(v=pB false/\Ow (S::L) μ'))->K v μ')->ab prog 112 [.list 7 f0 (l.map an.pv),.list 12 f1 (es.map av.pv),.list 1 f2 (t.tags.map dU),.list 4 f3 (t.binds.map Bind.pv),.fn fy ya yb] μ K
theorem JM{es:List av}{l:List an}(hd:Jr es l)(t:cA)(h1:t.tags.length+l.length<=1000000)(h2:t.binds.length+100*ao l<=900000):Sc prog (VX l es t.tags t.binds) ((aH es l [t]).map SY) (λ_=>True) (λ_=>True):=by
 refine Sc.mk λfy ya yb I S C μ hy hO h0 cQ=>?_
 show ab _ _ [.fn fy ya yb,.bl [.list 7 .sh (l.map an.pv)] 0,.bl [.list 12 .sh (es.map av.pv)] 0,.bl [.list 1 .sh (t.tags.map dU)] 0,.bl [.list 4 .sh (t.binds.map Bind.pv)] 0] _ _
 refine zI.c ⟨_,_,rfl,_,_,rfl,_,_,rfl,_,_,rfl,?_⟩
 refine hd t _ _ _ _ fy ya yb I S [] μ _ h1 h2 hy (λk hk f g ν hν=>?_) (h0 μ hO) λv μ' h=>?_
 ·refine cQ k (by simpa using hk) _ ν ?_
  rw[List.getElem_map]
  exact⟨M0,ν,Mem.rG ν,(Mem.BM ν).symm,⟨f,g,rfl⟩,Ow.one hν⟩
 ·rcases h with⟨rfl,h⟩|⟨rfl,h⟩
  ·exact⟨_,rfl,.inl (by simpa using h)⟩
  ·exact⟨_,rfl,.inr h⟩
theorem Vb{es:List av}{l:List an}(hd:Jr es l)(i:Int)(b:List az.Bind)(hl:l.length<=1000000)(hb:b.length+100*ao l<=900000)(f0 f1 f2:Fl):Pure prog 161 [.list 7 f0 (l.map an.pv),.list 12 f1 (es.map av.pv),.list 4 f2 (b.map Bind.pv)] (pB (aH es l [⟨[],b,i⟩]).isEmpty):=by
 refine ax.of (DB.c λb6 Uw=>?_)
 have O1:=Ow.new (L:=[]) (μ:=M0) 4 [pB false] trivial Uw
 refine(KO f0 f1 .nil f2 l es [] b).call ⟨_,_,_,rfl,?_⟩
 refine bJ.ac3 (JM hd ⟨[],b,i⟩ (by simpa using hl) hb) (Ow.Sk O1) (λk u=>k=0/\Ow [Pt b6 4 [pB false]] u) (λcd u=>cd=.ret/\aH es l [⟨[],b,i⟩]≠[]/\Ow [Pt b6 4 [pB false]] u) (λk=>eG.and (eG.own _)) (λcd=>eG.and (eG.and (eG.own _))) (λμ' h'=>⟨rfl,h'.drop⟩) ?_ ?_ ?_
 ·rintro k hk vs u R hI dF oM
  rw[List.getElem_map]at hI
  obtain⟨f,g,rfl⟩:=hI.fact λν h=>(h:∃f g,vs=JC f g ((aH es l [⟨[],b,i⟩])[k]'(by simpa using hk)))
  obtain⟨_,Ak⟩:=eG.one (eG.and (eG.own _)) hI.drop
  refine⟨_,_,_,_,rfl,Ak.st 0 rfl (by simp) λu4 h4=>oM _ _ ⟨rfl,λe=>?_,h4⟩⟩
  rw[List.length_map,e]at hk
  simp at hk
 ·rintro u ⟨h0,hI⟩
  rw[List.length_map]at h0
  have:aH es l [⟨[],b,i⟩]=[]:=List.eq_nil_of_length_eq_zero h0
  rw[this]
  dsimp only[PK]
  exact hI.st 0 rfl (by simp) λu5 h5=>⟨true,(h5.rd (o:=0) (n:=1) 0 rfl (Nat.le_refl 1)),rfl⟩
 ·rintro cd u ⟨rfl,bm,hI⟩
  have:(aH es l [⟨[],b,i⟩]).isEmpty=false:=by
   cases hq:aH es l [⟨[],b,i⟩]with
   |nil=>exact absurd hq bm
   |cons a m=>rfl
  rw[this]
  exact⟨false,(hI.rd (o:=0) (n:=1) 0 rfl (by simp)),rfl⟩
theorem ZX{es:List av}(vg:es.length<=1000000):∀(n:Nat) (l:List an),ao l<=n->uW l->Jr es l:=by
 intro n
 induction n using Nat.strongRecOn with
 |ind n ih=>
  intro l hs aD t f0 f1 f2 f3 fy ya yb I S L μ K hl hb hy hY hO hK
  refine DE.c λb5 h5 b6 h6 b7 h7 b9 h9 Gf h10=>?_
  have O:=((((hO.new 50 [.list 7 f0 (l.map an.pv)] h5).new 22 [.list 12 f1 (es.map av.pv)] h6).new 63 [.list 1 f2 (t.tags.map dU)] h7).new 190 [.fn fy ya yb] h9).new 4 [pB false] h10
  refine⟨_,_,O.rd 4 rfl (by simp),?_⟩
  cases l with
  |nil=>
   refine ae.t (by simp) ⟨_,_,_,O.rd 1 rfl (by simp),_,_,O.rd 2 rfl (by simp),?_⟩
   refine Ow.FU (Ow.ord [5] O) (λν hν=>hY 0 (Nat.lt_succ_self 0) f2 f3 ν hν) λp u' h'=>?_
   rcases Ow.B_ h' with⟨rfl,h4⟩|⟨rfl,h4⟩
   ·exact⟨_,rfl,h4.st 1 rfl (by simp) λu6 h6=>⟨true,h6.rd (o:=0) (n:=1) 1 rfl (Nat.le_refl 1),hK _ _ (.inl ⟨rfl,h6.tail λ_ h=>h.drop.drop.drop.drop.drop⟩)⟩⟩
   ·exact⟨_,rfl,h4.st 1 rfl (by simp) λu6 h6=>⟨false,h6.rd (o:=0) (n:=1) 1 rfl (Nat.le_refl 1),hK _ _ (.inr ⟨rfl,h6.tail λ_ h=>h.drop.drop.drop.drop.drop⟩)⟩⟩
  |cons c l'=>
   have eg:ao (c::l')=cP c+ao l':=by simp only[ao]
   have Sq:=cT c
   obtain⟨akM,adS⟩:=(show L_ c/\uW l' from aD)
   obtain⟨hlc,xv,qx⟩:=(xo c).1 akM
   obtain⟨_,la,lv,ta,tv,_⟩:=(im c).1 hlc
   have xu:(c::l').length=l'.length+1:=rfl
   have hlen:=gk c.conds
   have hd:List.drop (Int.toNat (1:Int)) (List.take (Int.toNat ((List.length ((c::l').map an.pv):Nat):Int)) ((c::l').map an.pv))=l'.map an.pv:=by
    rw[Int.toNat_natCast,List.take_length];rfl
   refine ae.f (by simp;omega) ⟨_,_,O.rd 4 rfl (by simp),by omega,_,rfl,_,_,_,_,_,_,_,_,_,_,KI c,?_⟩
   refine⟨λ_ u=>aH es (c::l') [t]=aH es l' [t]/\Ow (Pt Gf 4 [pB false]::Pt b9 190 [.fn fy ya yb]::Pt b7 63 [.list 1 f2 (t.tags.map dU)]::Pt b6 22 [.list 12 f1 (es.map av.pv)]::Pt b5 50 [.list 7 f0 ((c::l').map an.pv)]::I 0::L) u,ae.mk (λh1=>?_) (λh1=>ae.mk (λh2=>?_) (λh2=>?_)),?_⟩
   ·
    have bP:c.kind=1:=by simpa using h1
    have hT:=GW (es:=es) bP l' t
    rw[hT]at hY hK
    refine⟨_,_,O.rd 3 rfl (by simp),(RD f1 es).q ⟨_,_,_,rfl,?_⟩⟩
    rw[Mem.tw]
    refine(WW _ _ _ c .sh .sh .sh f3 t.binds (by omega)).call ⟨_,_,_,rfl,?_⟩
    generalize hF:(λx:av×List az.Bind=>aH es l' [⟨t.tags++[x.1.tag],x.2,t.at_⟩])=F at hY hK
    refine bJ.own (Eh (jY.ofP (Cd es vg)) (by omega) (λx hx=>by have:=(ta x hx).1;omega) (λx hx=>by have:=(tv x hx).1;omega)) (Ow.Sk O) (λk u=>Ow (Pt Gf 4 [pB false]::Pt b9 190 [.fn fy ya yb]::Pt b7 63 [.list 1 f2 (t.tags.map dU)]::Pt b6 22 [.list 12 f1 (es.map av.pv)]::Pt b5 50 [.list 7 f0 ((c::l').map an.pv)]::I (((bf c t.binds es).take k).flatMap F).length::L) u) (λcd u=>cd=.ret/\Ow (Pt Gf 4 [pB false]::Pt b9 190 [.fn fy ya yb]::Pt b7 63 [.list 1 f2 (t.tags.map dU)]::Pt b6 22 [.list 12 f1 (es.map av.pv)]::Pt b5 50 [.list 7 f0 ((c::l').map an.pv)]::S::L) u) (λk=>eG.own _) (λcd=>eG.and (eG.own _)) (λμ' h'=>by simpa using h'.drop) ?_ ?_ ?_
    ·intro k hk u R hI dF oM
     have eQ:k<(bf c t.binds es).length:=by simpa using hk
     have hnx:((bf c t.binds es)[k]).2.length<=t.binds.length+1+c.attr.length+c.value.length:=by
      have hm:=List.getElem_mem eQ
      unfold bf at hm
      obtain⟨e,he,h2⟩:=List.mem_filterMap.1 hm
      cases hc:dx c e t.binds with
      |none=>rw[hc]at h2;cases h2
      |some q=>
       rw[hc]at h2
       simp only[Option.map_some,Option.some.injEq]at h2
       have:=BB hc
       unfold bf
       rw[<- h2];exact this
     rw[List.getElem_map]
     have htg:(List.drop (Int.toNat (0:Int)) (List.take (Int.toNat ((List.length (t.tags.map dU):Nat):Int)) (t.tags.map dU)))++[[pI ((bf c t.binds es)[k]).1.tag]]=(t.tags++[((bf c t.binds es)[k]).1.tag]).map dU:=by
      rw[Int.toNat_natCast,List.take_length,List.map_append];rfl
     refine⟨_,_,_,_,_,_,_,_,_,_,_,_,_,_,rfl,_,_,hI.rd 4 rfl (by simp),by omega,by simp;omega,by omega,_,_,hI.rd 3 rfl (by simp),_,_,hI.rd 2 rfl (by simp),_,_,hI.rd 2 rfl (by simp),_,_,hI.rd 2 rfl (by simp),by omega,by omega,by omega,rfl,_,_,_,hI.rd 1 rfl (by simp),?_⟩
     refine Ow.aaS hI (by simp;omega) (by simp;omega) λf53 u12 wv=>?_
     rw[hd,htg]
     refine ih (ao l') (by omega) l' (Nat.le_refl _) adS ⟨t.tags++[((bf c t.binds es)[k]).1.tag],((bf c t.binds es)[k]).2,t.at_⟩ .sh f1 f53 .sh fy ya yb (λj=>I ((((bf c t.binds es).take k).flatMap F).length+j)) S _ u12 _ (by simp;omega) (by show((bf c t.binds es)[k]).2.length+100*ao l'<=900000;omega) hy (λj hj f g ν hν=>?_) (Ow.ord [5] wv) λv μ' hv=>?_
     ·have MB:j<(F (bf c t.binds es)[k]).length:=by rw[<- hF];exact hj
      obtain⟨h,e⟩:=KB F (bf c t.binds es) k eQ j MB
      have:=hY _ h f g ν hν
      rw[e]at this
      subst hF
      exact this
     ·have hft:=qf F eQ
      rcases hv with⟨rfl,hv⟩|⟨rfl,hv⟩
      ·refine⟨_,rfl,ae.f rfl (dF _ ?_)⟩
       rw[hft]
       subst hF
       exact Ow.ord [1,1,1,1,1] hv
      ·exact⟨_,rfl,ae.t rfl (hv.st 1 rfl (by simp) λu14 h14=>oM _ _ ⟨rfl,Ow.ord [1,1,1,1,1] h14⟩)⟩
    ·intro u hI
     rw[List.length_map,List.take_length]at hI
     dsimp only[PK]
     exact hI.st 0 rfl (by simp) λu15 SA=>⟨true,SA.rd (o:=0) (n:=1) 0 rfl (Nat.le_refl 1),hK _ _ (.inl ⟨rfl,SA.drop.drop.drop.drop.drop⟩)⟩
    ·rintro cd u ⟨rfl,h⟩
     dsimp only[PK]
     exact⟨false,h.rd (o:=0) (n:=1) 0 rfl (Nat.le_refl 1),hK _ _ (.inr ⟨rfl,h.drop.drop.drop.drop.drop⟩)⟩
   ·
    have qw:c.kind=2:=by simpa using h2
    have hT:=AM (es:=es) (c:=c) (by omega) l' t
    rw[UC qw]at hT
    refine⟨_,_,O.rd 3 rfl (by simp),(RD f1 es).q ⟨_,_,_,rfl,?_⟩⟩
    rw[Mem.tw]
    refine(WW _ _ _ c .sh .sh .sh f3 t.binds (by omega)).call ⟨_,_,_,rfl,?_⟩
    refine bJ.own (Eh (jY.ofP (Cd es vg)) (by omega) (λx hx=>by have:=(ta x hx).1;omega) (λx hx=>by have:=(tv x hx).1;omega)) (Ow.Sk O) (λk u=>k=0/\Ow (Pt Gf 4 [pB false]::Pt b9 190 [.fn fy ya yb]::Pt b7 63 [.list 1 f2 (t.tags.map dU)]::Pt b6 22 [.list 12 f1 (es.map av.pv)]::Pt b5 50 [.list 7 f0 ((c::l').map an.pv)]::I 0::L) u) (λcd u=>(cd=.ret/\bf c t.binds es≠[])/\Ow (Pt Gf 4 [pB true]::Pt b9 190 [.fn fy ya yb]::Pt b7 63 [.list 1 f2 (t.tags.map dU)]::Pt b6 22 [.list 12 f1 (es.map av.pv)]::Pt b5 50 [.list 7 f0 ((c::l').map an.pv)]::I 0::L) u) (λk=>eG.and (eG.own _)) (λcd=>eG.and (eG.own _)) (λμ' h'=>⟨rfl,h'.drop⟩) ?_ ?_ ?_
    ·rintro k hk u R ⟨_,hI⟩ dF oM
     rw[List.getElem_map]
     refine⟨_,_,_,_,_,_,_,_,_,_,_,_,_,_,rfl,hI.st 0 rfl (by simp) λu20 h20=>oM _ _ ⟨⟨rfl,λe=>?_⟩,h20⟩⟩
     rw[List.length_map,e]at hk
     simp at hk
    ·rintro u ⟨h0,hI⟩
     rw[List.length_map]at h0
     have e0:bf c t.binds es=[]:=List.eq_nil_of_length_eq_zero h0
     rw[e0]at hT
     exact⟨hT,hI⟩
    ·rintro cd u ⟨⟨rfl,bm⟩,h⟩
     have e0:(bf c t.binds es).isEmpty=false:=by
      cases hq:bf c t.binds es with
      |nil=>exact absurd hq bm
      |cons a m=>rfl
     rw[e0]at hT
     have hT:aH es (c::l') [t]=[]:=hT
     rw[hT]at hK
     dsimp only[PK]
     exact⟨true,h.rd (o:=0) (n:=1) 0 rfl (Nat.le_refl 1),hK _ _ (.inl ⟨rfl,h.drop.drop.drop.drop.drop⟩)⟩
   ·
    have bP:c.kind≠1:=by simpa using h1
    have qw:c.kind≠2:=by simpa using h2
    have hT:=AM (es:=es) (c:=c) bP l' t
    rw[UE bP qw t.binds ⟨[],t.binds,0⟩ rfl]at hT
    refine⟨_,_,O.rd 3 rfl (by simp),?_⟩
    refine(Vb (ih (ao c.conds) (by omega) c.conds (Nat.le_refl _) qx) 0 t.binds (by omega) (by omega) _ _ _).call ⟨_,rfl,ae.mk (λh3=>?_) (λh3=>⟨?_,O⟩)⟩
    ·have e0:(aH es c.conds [⟨[],t.binds,0⟩]).isEmpty=false:=by simpa using h3
     rw[e0]at hT
     have hT:aH es (c::l') [t]=[]:=hT
     rw[hT]at hK
     exact O.st 0 rfl (by simp) λu22 h22=>⟨true,h22.rd (o:=0) (n:=1) 0 rfl (Nat.le_refl 1),hK _ _ (.inl ⟨rfl,h22.drop.drop.drop.drop.drop⟩)⟩
    ·have e0:(aH es c.conds [⟨[],t.binds,0⟩]).isEmpty=true:=by simpa using h3
     rw[e0]at hT
     exact hT
   ·rintro _ u ⟨hT,h⟩
    rw[hT]at hY hK
    refine⟨_,_,h.rd 4 rfl (by simp),by omega,by simp;omega,by omega,_,_,h.rd 3 rfl (by simp),_,_,h.rd 2 rfl (by simp),_,_,_,h.rd 1 rfl (by simp),?_⟩
    rw[hd]
    refine ih (ao l') (by omega) l' (Nat.le_refl _) adS t .sh f1 f2 f3 fy ya yb I S _ u _ (by omega) (by omega) hy hY (Ow.ord [5] h) λv μ' hv=>?_
    rcases hv with⟨rfl,hv⟩|⟨rfl,hv⟩
    ·exact⟨_,rfl,hv.st 1 rfl (by simp) λu24 h24=>⟨true,h24.rd (o:=0) (n:=1) 1 rfl (Nat.le_refl 1),hK _ _ (.inl ⟨rfl,h24.tail λ_ h=>h.drop.drop.drop.drop.drop⟩)⟩⟩
    ·exact⟨_,rfl,hv.st 1 rfl (by simp) λu24 h24=>⟨false,h24.rd (o:=0) (n:=1) 1 rfl (Nat.le_refl 1),hK _ _ (.inr ⟨rfl,h24.tail λ_ h=>h.drop.drop.drop.drop.drop⟩)⟩⟩
namespace KW
abbrev El:=ByteArray
@[reducible] def pv(x:El):List PV:=[pS x]
@[reducible] def arg(x:El):PV:=pS x
def key(x:El):ByteArray:=x
abbrev ck:ByteArray->ByteArray->Int:=bN
theorem hc:kQ ck:=dJ
theorem zh(a b:El):Pure prog 518 [arg a,arg b] (pI (ck (key a) (key b))):=by
 refine ax.of (pF.c ?_)
 refine ae.mk (λh=>?_) (λh=>ae.mk (λh1=>?_) (λh1=>?_))<;>simp only[bN,wk,cu,key]
 ·rw[h];rfl
 ·rw[h1,h];rfl
 ·rw[h1,h];rfl
@[reducible] noncomputable def D:SD:=⟨prog,188,111,1,16,518,λQ=>∃x,Q [pS x],λr=>r.headD .au,[pS ⟨#[]⟩]⟩
abbrev At(b:Nat)(l:List El):bk:=bp 188 111 1 b (l.map pv)
theorem uC:Jh D pv arg key ck:=⟨λx Q h=>⟨_,h⟩,λ_=>rfl,λ_=>rfl,λ_=>rfl,λ_=>rfl,hc,zh,λv=>by kernel_rfl,rfl,by decide,by decide⟩
theorem eD{x:El}{a0:Option Addr}{u0:Mem}{K:Kq}(h:D.find a0 u0 K (arg x)):ab prog 109 [pA a0,arg x] u0 K:=VC [] [(2,⟨[(6,.one (.raw (.int .i64))),(7,.one (.raw (.int .i64)))],[]⟩)] [] [] [] [] [] func109 h
theorem lM{a0:Option Addr}{u0:Mem}{K:Kq}(h:D.own a0 u0 K):ab prog 110 [pA a0] u0 K:=VC [] [] [] [] [] [] [] func110 h
theorem oz{x:El}{a0:Option Addr}{u0:Mem}{K:Kq}(h:D.put a0 u0 K (pv x) (arg x) 109 110):ab prog 57 [pA a0,arg x] u0 K:=VC [] [(9,⟨[(7,.one (.raw (.int .i64)))],[]⟩)] [] [] [] [] [23,32,43,48,57] func57 h
def f_:=uC.f_ eD lM oz
theorem oA{fl:Fl}{l:Lq}{u0:Mem}{K:Kq}(h:D.new u0 K 57 l):ab prog 56 [.list 1 fl l] u0 K:=VC [] [(3,⟨[(10,.one (.raw (.int .i64)))],[]⟩)] [] [] [] [] [] func56 h
def gX:=uC.gX f_ oA
end KW
set_option maxRecDepth 100000
theorem qP.c{a0:Fn}{Nm Nl c0 c1:List PV}{u0:Mem}{K:Kq}(h: ca u0 22 [.list 12 .nil []] λb4 u=> ∃x12 ab_ ab9,aA c0 0 1=some [.fn x12 ab_ ab9]/\ bJ prog (.fn x12 ab_ ab9) (λvs RR pK=> ∃Xy Xx Xw Xu Xt Xs Xr Xq Xp Xo Xn Xm,vs=[.agg [pI Xy,pS Xx,pI Xw,pI Xu,pS Xt,pI Xs,pI Xr,pS Xq,pI Xp,pB Xo,pB Xn,pI Xm]]/\ ∃ab8 VQ,aN pK b4 0 1=some [.list 12 ab8 VQ]/\ bF false 12 112 ab8 VQ [[pI Xy,pS Xx,pI Xw,pI Xu,pS Xt,pI Xs,pI Xr,pS Xq,pI Xp,pB Xo,pB Xn,pI Xm]] pK λf17 JB=> stM b4 0 [.list 12 f17 (VQ++[[pI Xy,pS Xx,pI Xw,pI Xu,pS Xt,pI Xs,pI Xr,pS Xq,pI Xp,pB Xo,pB Xn,pI Xm]])] JB λGy=> RR none Gy) (λp uB=> PK p (ab prog 56 [.list 1 .nil []] uB λv XP=> ∃x18,v=(pA x18)/\ ca XP 109 [pA none] λb6 u_6=> stM b6 0 [pA x18] u_6 λXN=> ca XN 112 [pV none 0 0] λb7 u_8=> ∃x19 ab6 ab5,aA c1 0 1=some [.fn x19 ab6 ab5]/\ bJ prog (.fn x19 ab6 ab5) (λagf ae6 u_9=> ∃ab4 VP ab3 VO ab2,agf=[.agg [pS ab4,.list 7 VP ab3,.list 19 VO ab2]]/\ ca u_9 53 [pS ⟨#[]⟩,.list 7 .nil [],.list 19 .nil []] λb8 zW=> stM b8 0 [pS ab4,.list 7 VP ab3,.list 19 VO ab2] zW λXU=> ∃x21,aN XU b6 0 1=some [pA x21]/\ ∃x23,aN XU b8 0 1=some [pS x23]/\ ab prog 57 [pA x21,pS x23] XU λLo SW=> ∃x24,Lo=(pB x24)/\ ae (!x24) (ae6 none SW) (∃abW x27,aN SW b8 1 1=some [.list 7 abW x27]/\ ∃abV x28,aN SW b4 0 1=some [.list 12 abV x28]/\ ab prog 58 [.list 7 abW x27,.list 12 abV x28,.list 1 .nil [],.list 4 .nil []] SW λXG agu=> ∃x29 abT abS,XG=(.fn x29 abT abS)/\ bJ prog (.fn x29 abT abS) (λage al_ XT=> ∃agb x30 af_ x31,age=[.list 1 agb x30,.list 4 af_ x31]/\ ∃x32 Oa SP,aN XT b7 0 1=some [pV x32 Oa SP]/\ ∃x34,aN XT b8 0 1=some [pS x34]/\ ab prog 59 [pV x32 Oa SP,.agg [pS x34,.list 1 .sh x30]] XT λv_3 ags=> ∃x37 abO abP,v_3=(pV x37 abO abP)/\ stM b7 0 [pV x37 abO abP] ags λagr=> al_ none agr) (λp_2 agt=> PK p_2 (ae6 none agt) (False) []) agu)) (λp_1 Ls=> PK p_1 (∃x38 Xl af8,aN Ls b7 0 1=some [pV x38 Xl af8]/\ aj (α:=Int) (λnext s XR=> ae (decide ((s:Int)<((Xl:Nat):Int))) (bR x38 λb o=> (0:Int)<=s/\s<((Xl:Nat):Int)/\ ∃abM abL Xk,aN XR b (o+Int.toNat s*2) 2=some [pS abM,.list 1 abL Xk]/\ bF true 1 8 .nil [] Xk XR λf49 agq=> bc prog (.fn a0 Nm Nl) [.agg [pS abM,.list 1 .sh ([]++Xk)]] agq λXF aci=> ∃x51,XF=(pB x51)/\ ae (!x51) (K (.aC []) aci) (next (IntKind.wrap .i64 (s+(1))) aci)) (K (.aC []) XR)) (0) Ls) (False) []) u_8) (False) []) u):ab prog 55 [.fn a0 Nm Nl,.bl c0 0,.bl c1 0] u0 K:= VC [5,11] [(13,⟨[(40,.one (.raw (.int .i64)))],[]⟩)] [] [(13,[60]),(20,[53]),(30,[63,183])] [] [] [7,32,37,38] func55 h
theorem kM.c{aaQ aaW aa_ aba abb abc:Fl}{Nm Nl a0c a0d a0e a0f:Lq}{a0g a0h a0i a0j a0k a0l a0m:Int}{a1:Fn}{a1a a1b:List PV}{u0:Mem}{K:Kq}(h: ca u0 112 [.list 2 .nil []] λb5 u=> ab prog 35 [.list 12 aaQ Nm] u λv pK=> ∃x20 ab4 ab3,v=(.fn x20 ab4 ab3)/\ ab prog 16 [.fn a1 a1a a1b,.fn x20 ab4 ab3] pK λLo uB=> ∃x21 abU abX,Lo=(.fn x21 abU abX)/\ bJ prog (.fn x21 abU abX) (λvs RR JB=> ∃aca acg acf,vs=[.agg [pS aca,.list 1 acg acf]]/\ ∃ach x23,aN JB b5 0 1=some [.list 2 ach x23]/\ bF false 2 40 ach x23 [[pS aca,.list 1 .sh acf]] JB λf26 XP=> stM b5 0 [.list 2 f26 (x23++[[pS aca,.list 1 .sh acf]])] XP λu_6=> RR none u_6) (λp Gy=> PK p (ab prog 30 [.list 1 .nil []] Gy λXG XN=> ∃x27,XG=(pA x27)/\ aj (α:=Int) (λnext s u_8=> ae (decide ((s:Int)<((List.length Nm:Nat):Int))) ((0:Int)<=s/\∃(r33:List PV),(Nm)[Int.toNat s]?=some r33/\ ∃acj ack af9 acP ada adb adi adl adn adp adz adB,aA r33 0 12=some [pI acj,pS ack,pI af9,pI acP,pS ada,pI adb,pI adi,pS adl,pI adn,pB adp,pB adz,pI adB]/\ ab prog 33 [pA x27,pI adB] u_8 λv_3 u_9=> ∃x38,v_3=(pB x38)/\ next (IntKind.wrap .i64 (s+(1))) u_9) (aj (α:=(Option Addr×Nat×Nat)×Int) (λabw s_1 Ls=> ae (decide ((s_1.2:Int)<((List.length a0d:Nat):Int))) ((0:Int)<=s_1.2/\∃(r45:List PV),(a0d)[Int.toNat s_1.2]?=some r45/\ ∃adC adE adG adI adH adL,aA r45 0 5=some [pI adC,pI adE,pS adG,.list 1 adI adH,pB adL]/\ ae (!aG adG ⟨#[]⟩) (ab prog 59 [pV s_1.1.1 s_1.1.2.1 s_1.1.2.2,.agg [pS adG,.list 1 .sh adH]] Ls λXF zW=> ∃x56 adO adM,XF=(pV x56 adO adM)/\ abw ((x56,adO,adM),(IntKind.wrap .i64 (s_1.2+(1)))) zW) (aj (α:=Int) (λabx s_2 XU=> ae (decide ((s_2:Int)<((List.length adH:Nat):Int))) ((0:Int)<=s_2/\∃(r62:List PV),(adH)[Int.toNat s_2]?=some r62/\ ∃x63,aA r62 0 1=some [pI x63]/\ ab prog 65 [pA x27,pI x63] XU λv_5 SW=> ∃x66,v_5=(pB x66)/\ ae (!x66) (K (pB false) SW) (abx (IntKind.wrap .i64 (s_2+(1))) SW)) (abw ((s_1.1.1,s_1.1.2.1,s_1.1.2.2),(IntKind.wrap .i64 (s_1.2+(1)))) XU)) (0) Ls)) (∃adU x70,aN Ls b5 0 1=some [.list 2 adU x70]/\ ae ((((List.length x70:Nat):Int):Int) != ((s_1.1.2.1:Nat):Int)) (K (pB false) Ls) (∃adW x75,aN Ls b5 0 1=some [.list 2 adW x75]/\ aj (α:=Int) (λaby s_3 agu=> ae (decide ((s_3:Int)<((List.length x75:Nat):Int))) ((0:Int)<=s_3/\∃(r80:List PV),(x75)[Int.toNat s_3]?=some r80/\ ∃adX aeb aea,aA r80 0 2=some [pS adX,.list 1 aeb aea]/\ bR s_1.1.1 λb o=> (0:Int)<=s_3/\s_3<((s_1.1.2.1:Nat):Int)/\ ∃aec aef aee,aN agu b (o+Int.toNat s_3*2) 2=some [pS aec,.list 1 aef aee]/\ ab prog 66 [.agg [pS adX,.list 1 .sh aea],.agg [pS aec,.list 1 .sh aee]] agu λv_6 XT=> ∃x87,v_6=(pI x87)/\ ae ((x87:Int) != (0)) (K (pB false) XT) (aby (IntKind.wrap .i64 (s_3+(1))) XT)) (K (pB true) agu)) (0) Ls))) ((none,0,0),(0)) u_8)) (0) XN) (False) []) uB):ab prog 23 [.agg [.list 12 aaQ Nm,.list 16 aaW Nl,.list 9 aa_ a0c,.list 5 aba a0d,.list 1 abb a0e,.list 1 abc a0f,pI a0g,pI a0h,pI a0i,pI a0j,pI a0k,pI a0l,pI a0m],.fn a1 a1a a1b] u0 K:= VC [2,7,10,12,16] [(7,⟨[(31,.one (.raw (.int .i64)))],[]⟩),(12,⟨[(6,.one (.raw .slice)),(43,.one (.raw (.int .i64)))],[]⟩),(17,⟨[(60,.one (.raw (.int .i64)))],[]⟩),(26,⟨[(77,.one (.raw (.int .i64)))],[]⟩)] [] [(22,[65])] [] [] [6,50,56,72,83] func23 h
end Go.Proofs.YtbkejjmjopgpoaaGreat
namespace Go.az
open Go.RowKit
def Jg(P:Program)(f:PV)(items:Lq)(A:bk):Prop:=
 (∃g a b,f=.fn (.func g) a b)/\∀(fy:Fn) (ya yb:List PV) (J:Nat->bk) (S:bk) (μ:Mem),qy fy True->Ow [A,J 0] μ->
  (∀(k:Nat) (h:k<items.length) (μ:Mem),J k μ->bc P (.fn fy ya yb) items[k] μ λv μ'=>(v=pB true/\Ow [J (k+1)] μ')\/(v=pB false/\Ow [S] μ'))->
  bc P f [.fn fy ya yb] μ λ_ μ'=>Ow [A,J items.length] μ'\/Ow [A,S] μ'
theorem Jg.mk{P:Program}{g:FuncId}{a b:List PV}{items:Lq}{A:bk}
  (h:∀(fy:Fn) (ya yb:List PV) (J:Nat->bk) (S:bk) (μ:Mem),qy fy True->Ow [A,J 0] μ->
   (∀(k:Nat) (h:k<items.length) (μ:Mem),J k μ->bc P (.fn fy ya yb) items[k] μ λv μ'=>(v=pB true/\Ow [J (k+1)] μ')\/(v=pB false/\Ow [S] μ'))->
   ab P g (a++[.fn fy ya yb]++b) μ λ_ μ'=>Ow [A,J items.length] μ'\/Ow [A,S] μ'):Jg P (.fn (.func g) a b) items A:=
 ⟨⟨g,a,b,rfl⟩,λfy ya yb J S μ hy h0 cQ=>h fy ya yb J S μ hy h0 cQ⟩
theorem bJ.ac4{P:Program}{f:PV}{items:Lq}{A:bk}{L:List bk}{body:List PV->(Option Code->Mem->Prop)->Mem->Prop}{K:Option Code->Mem->Prop}{μ:Mem}(hs:Jg P f items A)(hO:Ow (A::L) μ)
  (J:Nat->bk) (S:Code->bk) (hJ:∀k,eG (J k)) (hS:∀c,eG (S c)) (h0:∀μ',Ow L μ'->J 0 μ')
  (cQ:∀(k:Nat) (h:k<items.length) (μ:Mem) (R:Option Code->Mem->Prop),J k μ->(∀μ',J (k+1) μ'->R none μ')->(∀c μ',S c μ'->R (some c) μ')->body items[k] R μ)
  (Qy:∀μ,Ow [A,J items.length] μ->K none μ) (Fg:∀c μ,Ow [A,S c] μ->K (some c) μ):bJ P f body K μ:=by
 obtain⟨hf,hs⟩:=hs
 refine⟨hf,λl rec hl hy=>?_⟩
 have cut:∀{ν:Mem} {o:Ob} {M:List bk},Ow (Rc l o::M) ν->ν l=some o/\Ow M (ν.set l none):=λ{ν o M} h=>by
  obtain⟨ν1,ν2,kZ,rfl,hR,hM⟩:=h
  refine⟨Mem.aX hR,hM.mono λb o' hb=>?_⟩
  have zR:ν1 b=none:=(kZ b).resolve_right (by rw[hb];simp)
  have bm:b≠l:=by
   rintro rfl
   have:ν1 b=_:=hR
   rw[this]at zR;cases zR
  rw[Mem.aw _ _ bm,Mem.bg zR];exact hb
 have glue:∀{ν:Mem} {o:Ob},ν l=some o->ν=(ν.set l none).set l (some o):=λ{ν o} h=>by
  rw[Mem.set_set,Mem.s_ h]
 have lift:∀{ν:Mem} {o:Ob} {B:bk},eG B->Ow [A,λν=>∃μ3,μ3 l=none/\ν=μ3.set l (some o)/\B μ3] ν->ν l=some o/\Ow [A,B] (ν.set l none):=λ{ν o B} hB h=>by
  obtain⟨ν1,ν2,kZ,rfl,hA,ν3,ν4,Wn,rfl,⟨μ3,h1,rfl,h3⟩,_⟩:=h
  have Fm:ν1 l=none:=by
   rcases kZ l with h|h
   ·exact h
   ·rw[Mem.aX (Mem.ai _ _ _)]at h;cases h
  have e2:((μ3.set l (some o)).or ν4) l=some o:=Mem.aX (Mem.ai _ _ _)
  refine⟨by rw[Mem.bg Fm];exact e2,ν1,((μ3.set l (some o)).or ν4).set l none,λb=>?_,?_,hA,Ow.one (hB μ3 _ (λb o' hb=>?_) h3)⟩
  ·by_cases e:b=l
   ·subst e;exact .inl Fm
   ·rw[Mem.aw _ _ e];exact kZ b
  ·funext b
   by_cases e:b=l
   ·subst e;rw[Mem.ai,Mem.bg Fm,Mem.ai]
   ·rw[Mem.aw _ _ e]
    show(ν1.or ((μ3.set l (some o)).or ν4)) b=(ν1.or (((μ3.set l (some o)).or ν4).set l none)) b
    cases hx:ν1 b with
    |some y=>rw[Mem.aX hx,Mem.aX hx]
    |none=>rw[Mem.bg hx,Mem.bg hx,Mem.aw _ _ e]
  ·have bm:b≠l:=by rintro rfl;rw[h1]at hb;cases hb
   rw[Mem.aw _ _ bm]
   exact Mem.aX (by rw[Mem.aw _ _ bm];exact hb)
 refine(hs (.yield l) [] [] (λk ν=>∃μ3,μ3 l=none/\ν=μ3.set l (some (rec none))/\J k μ3) (λν=>∃c μ3,μ3 l=none/\ν=μ3.set l (some (rec (some c)))/\S c μ3) _ trivial ?_ ?_).mono ?_
 ·have h1:Ow (Rc l (rec none)::A::L) (μ.set l (some (rec none))):=by
   refine⟨M0.set l (some (rec none)),μ,λx=>?_,?_,Mem.ai _ _ _,hO⟩
   ·by_cases e:x=l
    ·subst e;exact .inr hl
    ·rw[Mem.aw _ _ e];exact .inl rfl
   ·funext x
    by_cases e:x=l
    ·subst e;rw[Mem.ai,Mem.aX (Mem.ai _ _ _)]
    ·rw[Mem.aw _ _ e,Mem.bg (by rw[Mem.aw _ _ e];rfl)]
  refine h1.swap.tail λν hν=>Ow.one ?_
  obtain⟨h2,h3⟩:=cut hν
  exact⟨_,Mem.ai _ _ _,glue h2,h0 _ h3⟩
 ·rintro k hk _ ⟨μ3,h1,rfl,Sw⟩
  refine(hy items[k] μ3 (λp μ'=>match p with|none=>J (k+1) μ'|some c=>S c μ') h1 (cQ k hk μ3 _ Sw (λμ' h=>h) (λc μ' h=>h))).mono ?_
  rintro v μ2 ⟨p,μ4,rfl,h3,rfl,hR⟩
  cases p with
  |none=>exact .inl ⟨rfl,Ow.one ⟨μ4,h3,rfl,hR⟩⟩
  |some c=>exact .inr ⟨rfl,Ow.one ⟨c,μ4,h3,rfl,hR⟩⟩
 ·rintro v ν (h|h)
  ·obtain⟨h4,h5⟩:=lift (hJ _) h
   exact⟨none,ν.set l none,Mem.ai _ _ _,glue h4,Qy _ h5⟩
  ·have h6:Ow [A,λν=>∃c,(λν=>∃μ3,μ3 l=none/\ν=μ3.set l (some (rec (some c)))/\S c μ3) ν] ν:=h
   obtain⟨c,h7⟩:=Ow.ex h6.swap
   obtain⟨h4,h5⟩:=lift (hS c) h7.swap
   exact⟨some c,ν.set l none,Mem.ai _ _ _,glue h4,Fg c _ h5⟩
end Go.az
namespace Go.Proofs.YtbkejjmjopgpoaaGreat
open Go.Proofs.Tryz Go.az Go.RowKit K6
theorem VZ{A B:bk}{L:List bk}{μ:Mem}(h:Ow (A::B::L) μ):Ow [A,B] μ:=h.tail (L':=[B]) λ_ h=>h.tail (L':=[]) λ_ _=>trivial
theorem ac5{A:bk}{L:List bk}{μ:Mem}(h:Ow (A::L) μ):Ow [A] μ:=h.tail (L':=[]) λ_ _=>trivial
noncomputable def df(es:List av)(ps:List Prod):List Mt:=cx [] ((mH [] ps).flatMap (jE es))
theorem LY{es:List av}(h:TT es)(ps:List Prod):df es ps=et es ps:=Tu h ps
theorem ye{es:List av}{ps:List Prod}{k:Nat}(hk:k<ps.length):((∃q∈ps.take k,q.name=ps[k].name)->df es (ps.take (k+1))=df es (ps.take k))/\((¬ ∃q∈ps.take k,q.name=ps[k].name)->df es (ps.take (k+1))=cx (df es (ps.take k)) (jE es ps[k])):=by
 have h:=FD hk
 constructor
 ·intro hx
  rw[if_pos hx]at h
  unfold df;rw[h,List.append_nil]
 ·intro hx
  rw[if_neg hx]at h
  unfold df;rw[h,List.flatMap_append,zu];simp
theorem yf{es:List av}{ps:List Prod}:∀{j k:Nat},j<=k->k<=ps.length->(df es (ps.take j)).length<=(df es (ps.take k)).length/\∀m∈df es (ps.take j),m∈df es (ps.take k):=by
 intro j k Wx hk
 induction k with
 |zero=>obtain rfl:j=0:=by omega
        exact⟨Nat.le_refl _,λ_ h=>h⟩
 |succ k ih=>
  by_cases e:j=k+1
  ·subst e;exact⟨Nat.le_refl _,λ_ h=>h⟩
  ·obtain⟨h1,h2⟩:=ih (by omega) (by omega)
   have hs:=ye (es:=es) (show k<ps.length by omega)
   by_cases hx:∃q∈ps.take k,q.name=ps[k].name
   ·rw[hs.1 hx];exact⟨h1,h2⟩
   ·rw[hs.2 hx]
    refine⟨by rw[jW];omega,λm hm=>(ee _ _ _).2 (.inl (h2 m hm))⟩
theorem Hb{es:List av}{ps:List Prod}{fe fp:Fn}{ea eb pa pb:List PV}(hE:jY prog (.fn fe ea eb) (es.map λe=>[.agg e.pv]) (λ_=>True) (λ_=>True))(hP:jY prog (.fn fp pa pb) (ps.map λp=>[.agg p.pv]) (λ_=>True) (λ_=>True))(vg:es.length<=100000)(tM:ps.length<=8)(aD:∀p∈ps,Gm p)(hlen:(df es ps).length<=10000000):
  Jg prog (.fn (.func 55) [] [.bl [.fn fe ea eb] 0,.bl [.fn fp pa pb] 0]) ((df es ps).map λm=>[.agg m.pv]) (λ_=>True):=by
 have Qf:∀k,k<=ps.length->∀m∈df es (ps.take k),m.tags.length<=16:=λk hk m hm=>by
  have lS:=(yf (es:=es) hk (Nat.le_refl _)).2 m hm
  rw[List.take_length]at lS
  rcases(ee _ _ _).1 lS with h|h
  ·cases h
  ·obtain⟨p,hp,h⟩:=List.mem_flatMap.1 h
   unfold jE at h
   obtain⟨t,ht,rfl⟩:=List.mem_map.1 h
   obtain⟨_,_,_,_,_,_,hc⟩:=(aD p (tP hp).1).facts
   have:=nQ (m:=0) (by intro t ht;simp only[List.mem_singleton]at ht;subst ht;exact Nat.zero_le _) t ht
   show t.tags.length<=16
   omega
 refine Jg.mk λfy ya yb J S μ hy hO cQ=>?_
 show ab _ _ [.fn fy ya yb,.bl [.fn fe ea eb] 0,.bl [.fn fp pa pb] 0] _ _
 refine qP.c λb4 hb4=>⟨_,_,_,rfl,?_⟩
 have O1:=vK.new (hO.new 22 [.list 12 .nil []] hb4)
 refine bJ.own hE (Ow.Sk O1) (λk u=>Ow (vK b4 22 12 ((es.take k).map av.pv)::(λ_=>True)::[J 0]) u) (λ_ _=>False) (λk=>eG.own _) (λ_ _ _ _ h=>h.elim) (λμ' h'=>h'.drop) ?_ ?_ (λ_ _ h=>h.elim)
 ·intro k hk u R hI dF _
  have eQ:k<es.length:=by simpa using hk
  rw[List.getElem_map]
  refine⟨_,_,_,_,_,_,_,_,_,_,_,_,rfl,vK.go 0 hI rfl (by simp;omega) (by simp;omega) λu4 h4=>dF _ ?_⟩
  rw[CD eQ];exact h4
 intro u hI
 rw[List.length_map,List.take_length]at hI
 dsimp only[PK]
 refine KW.gX hI .nil [] (by simp) λu5 nb h0=>⟨_,rfl,λb6 Uw=>?_⟩
 refine(h0.new 109 [pA none] Uw).st 0 rfl (by simp) λu7 O3=>λb7 Uv=>⟨_,_,_,rfl,?_⟩
 have O5:=jD.nil 118 2 (O3.new 112 [pV none 0 0] Uv)
 refine bJ.own hP (Ow.Sk O5) (λk u=>∃a n c,Ow (jD 118 2 (pV a n c) ((df es (ps.take k)).map Mt.pv)::Pt b7 112 [pV a n c]::Pt b6 109 [pA (some ⟨nb,0,none⟩)]::KW.At nb (cr bN KW.key [] ((ps.take k).map Prod.name))::vK b4 22 12 (es.map av.pv)::(λ_=>True)::[J 0]) u) (λ_ _=>False) (λk=>eG.ex λ_=>eG.ex λ_=>eG.ex λ_=>eG.own _) (λ_ _ _ _ h=>h.elim) (λμ' h'=>⟨none,0,0,h'.drop⟩) ?_ ?_ (λ_ _ h=>h.elim)
 ·rintro k hk u8 R ⟨a,n,c,hI8⟩ dF _
  have eQ:k<ps.length:=by simpa using hk
  have iu:=ye (es:=es) eQ
  have iB:=(dp (key:=KW.key) dJ ((ps.take k).map Prod.name) (a:=[])).1
  rw[List.length_map,List.length_take]at iB
  simp only[List.length_nil]at iB
  have hnm:(ps.take (k+1)).map Prod.name=(ps.take k).map Prod.name++[ps[k].name]:=by rw[List.take_add_one,List.getElem?_eq_getElem eQ,List.map_append];rfl
  have Ww:(∃q∈ps.take k,q.name=ps[k].name)↔∃y∈cr bN KW.key [] ((ps.take k).map Prod.name),KW.key y=ps[k].name:=by
   rw[fY dJ]
   constructor
   ·rintro⟨q,hq,e⟩;exact .inr ⟨q.name,List.mem_map.2 ⟨q,hq,rfl⟩,e⟩
   ·rintro(⟨y,hy,_⟩|⟨y,hy,e⟩)
    ·cases hy
    ·obtain⟨q,hq,rfl⟩:=List.mem_map.1 hy;exact⟨q,hq,e⟩
  obtain⟨g1,_,_,g4,_,_,g7⟩:=(aD _ (List.getElem_mem eQ)).facts
  rw[List.getElem_map]
  refine⟨_,_,_,_,_,rfl,λb8 hb8=>?_⟩
  refine(hI8.new 53 [pS ⟨#[]⟩,.list 7 .nil [],.list 19 .nil []] hb8).st 0 rfl (by simp) λu12 O12=>?_
  refine⟨_,O12.rd 3 rfl (by simp),_,O12.rd 0 rfl (by simp[ei]),?_⟩
  refine KW.f_ (l:=cr bN KW.key [] ((ps.take k).map Prod.name)) (Ow.ord [4] O12) (dV dJ _ List.Pairwise.nil) (by omega) ps[k].name λu13 O13=>⟨_,rfl,ae.mk (λhn=>?_) (λhn=>?_)⟩
  ·have hx:∃q∈ps.take k,q.name=ps[k].name:=by
    refine Ww.2 ((eR dJ).1 ?_)
    cases hg:bI bN KW.key ps[k].name (cr bN KW.key [] ((ps.take k).map Prod.name))with
    |some y=>rfl
    |none=>
     have hn:(!(bI bN KW.key ps[k].name (cr bN KW.key [] ((ps.take k).map Prod.name))).isNone)=true:=hn
     rw[hg]at hn;cases hn
   refine dF _ ⟨a,n,c,?_⟩
   rw[iu.1 hx,hnm,eS]
   exact Ow.ord [1,1,1] (O13.tail λ_ h=>h.drop)
  ·have hx:¬ ∃q∈ps.take k,q.name=ps[k].name:=λhq=>by
    have h2:=(eR dJ).2 (Ww.1 hq)
    have hn:(!(bI bN KW.key ps[k].name (cr bN KW.key [] ((ps.take k).map Prod.name))).isNone)=false:=hn
    cases hg:bI bN KW.key ps[k].name (cr bN KW.key [] ((ps.take k).map Prod.name))with
    |none=>rw[hg]at h2;cases h2
    |some y=>rw[hg]at hn;cases hn
   have O14:Ow (jD 118 2 (pV a n c) ((df es (ps.take k)).map Mt.pv)::Pt b7 112 [pV a n c]::Pt b8 53 [pS ps[k].name,.list 7 .sh (ps[k].conds.map an.pv),.list 19 .sh (ps[k].dW.map kt.pv)]::Pt b6 109 [pA (some ⟨nb,0,none⟩)]::KW.At nb (bC bN KW.key ps[k].name (cr bN KW.key [] ((ps.take k).map Prod.name)))::vK b4 22 12 (es.map av.pv)::(λ_=>True)::[J 0]) u13:=Ow.ord [2,2,1,1] O13
   obtain⟨f4,hf4⟩:=vK.rd 5 O14 rfl
   refine⟨_,_,O14.rd 2 rfl (by simp),f4,_,hf4,?_⟩
   refine(KO .sh f4 .nil .nil ps[k].conds es [] []).call ⟨_,_,_,rfl,?_⟩
   have Wk:(jE es ps[k]).length=(aH es ps[k].conds [nX]).length:=by unfold jE;rw[List.length_map]
   have hle:(df es (ps.take k)).length+(jE es ps[k]).length<=10000000:=by
    have h1:=(yf (es:=es) (show k+1<=ps.length by omega) (Nat.le_refl _)).1
    rw[List.take_length,iu.2 hx,jW]at h1
    omega
   have htg:∀m∈jE es ps[k],m.tags.length<=16:=λm hm=>Qf (k+1) (by omega) m (by rw[iu.2 hx];exact(ee _ _ _).2 (.inr hm))
   refine bJ.ac3 (JM (ZX (by omega) _ _ (Nat.le_refl _) g1) nX (by show 0+_<=_;omega) (by show 0+_<=_;omega)) (Ow.Sk O14) (λj u=>∃a n c,Ow (jD 118 2 (pV a n c) ((cx (df es (ps.take k)) ((jE es ps[k]).take j)).map Mt.pv)::Pt b7 112 [pV a n c]::Pt b8 53 [pS ps[k].name,.list 7 .sh (ps[k].conds.map an.pv),.list 19 .sh (ps[k].dW.map kt.pv)]::Pt b6 109 [pA (some ⟨nb,0,none⟩)]::KW.At nb (bC bN KW.key ps[k].name (cr bN KW.key [] ((ps.take k).map Prod.name)))::vK b4 22 12 (es.map av.pv)::(λ_=>True)::[J 0]) u) (λ_ _=>False) (λk=>eG.ex λ_=>eG.ex λ_=>eG.ex λ_=>eG.own _) (λ_ _ _ _ h=>h.elim) (λμ' h'=>⟨a,n,c,h'.drop⟩) ?_ ?_ (λ_ _ h=>h.elim)
   ·rintro j hj vs u15 R2 ZD Zg _
    have MB:j<(aH es ps[k].conds [nX]).length:=by simpa using hj
    have Kw:j<(jE es ps[k]).length:=by omega
    rw[List.getElem_map]at ZD
    obtain⟨f,g,rfl⟩:=ZD.fact λν h=>(h:∃f g,vs=JC f g (aH es ps[k].conds [nX])[j])
    obtain⟨a,n,c,O15⟩:=eG.one (eG.ex λ_=>eG.ex λ_=>eG.ex λ_=>eG.own _) ZD.drop
    have hmj:(jE es ps[k])[j]=⟨ps[k].name,((aH es ps[k].conds [nX])[j]).tags⟩:=by
     have h1:(jE es ps[k])[j]?=some ⟨ps[k].name,((aH es ps[k].conds [nX])[j]).tags⟩:=by
      unfold jE;rw[List.getElem?_map,List.getElem?_eq_getElem MB];rfl
     exact Option.some.inj ((List.getElem?_eq_getElem Kw).symm.trans h1)
    have ir:(jE es ps[k]).take (j+1)=(jE es ps[k]).take j++[⟨ps[k].name,((aH es ps[k].conds [nX])[j]).tags⟩]:=by rw[List.take_add_one,List.getElem?_eq_getElem Kw,hmj];rfl
    have uF:=jW (df es (ps.take k)) ((jE es ps[k]).take j)
    rw[List.length_take]at uF
    refine⟨_,_,_,_,rfl,_,_,_,O15.rd 1 rfl (by simp),_,O15.rd 2 rfl (by simp),?_⟩
    refine aeS (cx (df es (ps.take k)) ((jE es ps[k]).take j)) ⟨ps[k].name,((aH es ps[k].conds [nX])[j]).tags⟩ (by omega) (by have:=htg _ (List.getElem_mem Kw);rw[hmj]at this;exact Nat.le_trans this (by omega)) (λt ht=>?_) O15 λa' c' u17 O17=>⟨_,_,_,rfl,O17.st 1 rfl (by simp) λu18 O18=>Zg _ ⟨a',(cx (df es (ps.take k)) ((jE es ps[k]).take j)).length+1,c',?_⟩⟩
    ·rcases(ee _ _ _).1 ht with h|h
     ·have:=Qf k (by omega) _ h;omega
     ·have:=htg _ (List.mem_of_mem_take h);omega
    ·rw[ir,wH]
     exact O18
   ·rintro u16 ⟨a,n,c,O16⟩
    rw[List.length_map,<- Wk,List.take_length]at O16
    dsimp only[PK]
    refine dF _ ⟨a,n,c,?_⟩
    rw[iu.2 hx,hnm,eS]
    exact O16.tail λ_ h=>h.tail λ_ h=>h.drop
 ·rintro u10 ⟨a,n,c,Uy⟩
  rw[List.length_map,List.take_length]at Uy
  dsimp only[PK]
  have hn:=jD.len 0 Uy rfl
  rw[List.length_map]at hn
  subst hn
  refine⟨_,_,_,Uy.rd 1 rfl (by simp),?_⟩
  have O20:Ow [jD 118 2 (pV a (df es ps).length c) ((df es ps).map Mt.pv),J 0] u10:=VZ (Ow.ord [0,5] Uy)
  refine aj.each (n:=(df es ps).length) (by omega) (λi u=>Ow [jD 118 2 (pV a (df es ps).length c) ((df es ps).map Mt.pv),J i] u) O20 ?_ ?_
  ·intro i u19 next hi h19 ar
   obtain⟨b3,rfl,eF,_⟩:=jD.at_ 0 h19 rfl (yn _) (j:=i) (by simpa using hi)
   have hti:=Qf ps.length (Nat.le_refl _) ((df es ps)[i]) (by rw[List.take_length];exact List.getElem_mem hi)
   refine ae.t (by simpa using hi) ⟨by omega,by omega,(df es ps)[i].name,.sh,(df es ps)[i].tags.map dU,?_,?_⟩
   ·rw[Int.toNat_natCast]
    have:=eF 0 2 (by omega)
    rw[List.getElem_map]at this
    exact this
   refine Ow.ae1 h19 (by simp;omega) (by simp;omega) λg1 u20 h20=>?_
   have iu:∀ν,J i ν->bc prog (.fn fy ya yb) [.agg [pS (df es ps)[i].name,.list 1 .sh ([]++(df es ps)[i].tags.map dU)]] ν λv μ'=>(v=pB true/\Ow [J (i+1)] μ')\/(v=pB false/\Ow [S] μ'):=λν hν=>by
    have h:=cQ i (by simpa using hi) ν hν
    rw[List.getElem_map]at h
    exact h
   refine Ow.FU (Ow.ord [2] h20) iu λp u21 h21=>?_
   rcases Ow.B_ h21 with⟨rfl,h22⟩|⟨rfl,h22⟩
   ·exact⟨_,rfl,ae.f rfl (ar _ (VZ (Ow.ord [2,0] h22)))⟩
   ·exact⟨_,rfl,ae.t rfl (.inr (Ow.Sk (ac5 h22)))⟩
  ·intro u19 next h19
   refine ae.f (by simp) (.inl ?_)
   rw[List.length_map]
   exact Ow.Sk h19.drop
def Bk(p:Prod):Prop:=dT p.conds/\ao p.conds<=50/\p.dW.length<=50
theorem T_{p:Prod}(h:HR p):Bk p:=⟨h.1,by have:=h.2.1;omega,by have:=h.2.2.1;omega⟩
theorem FZ(f:Fl)(ps:List Prod)(n:Nat)(hn:n<=1000000):ax prog 10 [.list 3 f (ps.map Prod.pv),pI (n:Nat)] λv=>∃q:Bool,v=pB q/\(q=false->ps.length<=n/\∀p∈ps,Bk p):=by
 refine ax.of (md.c (ae.mk (λ_=>⟨true,rfl,λh=>by cases h⟩) (λh=>?_)))
 have hl:ps.length<=n:=by simpa using h
 refine aj.each (n:=ps.length) (by omega) (λk _=>∀p∈ps.take k,Bk p) (by simp) (λk u next hk hI ar=>?_) (λu next hI=>ae.f (by simp) ⟨false,rfl,λ_=>⟨hl,by rwa [List.take_length]at hI⟩⟩)
 refine ae.t (by simpa using hk) ⟨by omega,_,aI hk,_,_,_,_,_,rfl,(aax .sh .sh ps[k]).call ?_⟩
 rintro _ ⟨q,rfl,hq⟩
 refine⟨_,rfl,ae.mk (λ_=>⟨true,rfl,λh=>by cases h⟩) (λhf=>ar _ λp hp=>?_)⟩
 rcases(Mi hk).1 hp with hp|rfl
 ·exact hI p hp
 ·exact T_ (hq hf)
def dP(ps:List Prod):List Prod:=ps.filter λp=>(cJ p).2.1 == 0
theorem Em{ps:List Prod}{k:Nat}(hk:k<ps.length):dP (ps.take (k+1))=dP (ps.take k)++if(cJ ps[k]).2.1 == 0 then[ps[k]]else[]:=by
 unfold dP
 rw[List.take_add_one,List.getElem?_eq_getElem hk,List.filter_append]
 congr 1
 cases h:(cJ ps[k]).2.1 == 0<;>simp[h]
def ko:Nat->List av->List av
 |_,[]=>[]
 |k,e::l=>⟨e.id,e.attr,e.value,e.acc,e.goal,((k:Nat):Int)+1⟩::ko (k+1) l
theorem xF:∀(l:List av) (k:Nat),(ko k l).length=l.length
 |[],_=>rfl
 |e::l,k=>by simp only[ko,List.length_cons,xF l]
theorem AL:∀(l:List av) (k:Nat) (e:av),ko k (l++[e])=ko k l++[⟨e.id,e.attr,e.value,e.acc,e.goal,((k+l.length:Nat):Int)+1⟩]
 |[],k,e=>rfl
 |d::l,k,e=>by
  simp only[List.cons_append,ko,AL l,List.length_cons]
  rw[show k+1+l.length=k+(l.length+1) by omega]
theorem JE:∀(l:List av) (k:Nat),∀e∈ko k l,((k:Nat):Int)+1<=e.tag
 |[],k,e,h=>by cases h
 |d::l,k,e,h=>by
  rcases List.mem_cons.1 h with rfl|h
  ·exact Int.le_refl _
  ·have:=JE l (k+1) e h
   omega
theorem BW:∀(l:List av) (k:Nat),TT (ko k l)
 |[],k=>List.Pairwise.nil
 |d::l,k=>by
  refine List.pairwise_cons.2 ⟨λe he=>?_,BW l (k+1)⟩
  have:=JE l (k+1) e he
  show((k:Nat):Int)+1≠e.tag
  omega
theorem Rq(f:Fl)(ps:List Prod)(hl:ps.length<=1000)(hp:∀p∈ps,Bk p):Pure prog 12 [.list 3 f (ps.map Prod.pv)] (.list 3 .sh ((dP ps).map Prod.pv)):=by
 refine ax.of (qK.c ?_)
 refine aj.ed (n:=ps.length) (by omega) (λk s u=>s.2=(dP (ps.take k)).map Prod.pv/\Ow [m_ s.1 (dP (ps.take k)).length 3] u) ⟨rfl,Ow.nil (L:=[]) (μ:=_) trivial (.inl rfl)⟩ ?_ ?_
 ·rintro k ⟨g,_⟩ u next hk ⟨rfl,hO⟩ ar
  dsimp only at hO |-
  obtain⟨h1,h2,h3⟩:=hp _ (List.getElem_mem hk)
  have iu:=Em hk
  have hle:(dP (ps.take k)).length<=k:=Nat.le_trans (List.length_filter_le _ _) (by rw[List.length_take];omega)
  refine ae.t (by simpa using hk) ⟨by omega,_,aI hk,_,_,_,_,_,rfl,?_⟩
  refine(aaI .sh .sh ps[k] h1 (by omega) (by omega)).call ⟨_,_,rfl,ae.mk (λh=>?_) (λh=>ar _ _ ⟨?_,?_⟩)⟩
  ·refine⟨by omega,_,aI hk,_,_,_,_,_,rfl,?_⟩
   refine hO.app (by simp) (by simp;omega) (by simp;omega) λg2 u2 h4=>ar _ _ ⟨?_,?_⟩
   ·rw[iu,if_pos h,List.map_append];rfl
   ·rw[iu,if_pos h,List.length_append];exact h4
  ·rw[iu,if_neg (by rw[h];simp),List.append_nil]
  ·rw[iu,if_neg (by rw[h];simp),List.append_nil];exact hO
 ·rintro⟨g,_⟩ u next ⟨rfl,hO⟩
  rw[List.take_length]
  exact ae.f (by simp) rfl
theorem MX(f:Fl)(es:List av)(hl:es.length<=1000):Pure prog 13 [.list 12 f (es.map av.pv)] (.list 12 .sh ((ko 0 es).map av.pv)):=by
 refine ax.of (pC.c ?_)
 refine aj.ed (n:=es.length) (by omega) (λk s u=>s.2=(ko 0 (es.take k)).map av.pv/\Ow [m_ s.1 k 12] u) ⟨rfl,Ow.nil (L:=[]) (μ:=_) trivial (.inl rfl)⟩ ?_ ?_
 ·rintro k ⟨g,_⟩ u next hk ⟨rfl,hO⟩ ar
  dsimp only at hO |-
  have ew:IntKind.wrap .i64 ((k:Int)+1)=(k:Int)+1:=aB (by omega) (by omega)
  have ir:es.take (k+1)=es.take k++[es[k]]:=by rw[List.take_add_one,List.getElem?_eq_getElem hk];rfl
  have CP:(es.take k).length=k:=by rw[List.length_take];omega
  refine ae.t (by simpa using hk) ⟨by omega,_,aI hk,_,_,_,_,_,_,_,_,_,_,_,_,rfl,?_⟩
  refine hO.app (by rw[List.length_map,xF,CP]) (by simp;omega) (by simp;omega) λg2 u2 h4=>ar _ _ ⟨?_,h4⟩
  rw[ir,AL,List.map_append,CP,ew,Nat.zero_add];rfl
 ·rintro⟨g,_⟩ u next ⟨rfl,hO⟩
  rw[List.take_length]
  exact ae.f (by simp) rfl
theorem aao(f:Fl)(l:List Prod):Pure prog 17 [.list 3 f (l.map Prod.pv)] (.fn (.func 60) [] [.bl [.list 3 .sh (l.map Prod.pv)] 0]):=ax.of (ll.c rfl)
theorem OS(l:List Prod)(hl:l.length<=1000000):jY prog (.fn (.func 60) [] [.bl [.list 3 .sh (l.map Prod.pv)] 0]) (l.map λp=>[.agg p.pv]) (λ_=>True) (λ_=>True):=by
 refine jY.ofP (Jf.mk λfy ya yb I S μ hy h0 cQ=>?_)
 show ab _ _ [.fn fy ya yb,.bl [.list 3 .sh (l.map Prod.pv)] 0] _ _
 refine kg.c ?_
 refine aj.each (n:=l.length) (by omega) (λk u=>I k u) h0 ?_ ?_
 ·intro k u next hk hI ar
  refine⟨_,_,rfl,ae.t (by simpa using hk) ⟨_,_,rfl,by omega,_,aI hk,_,_,_,_,_,rfl,?_⟩⟩
  have hs:=cQ k (by simpa using hk) u hI
  rw[List.getElem_map]at hs
  refine bc.mono hs λv μ' h=>?_
  rcases h with⟨rfl,h⟩|⟨rfl,h⟩
  ·exact⟨_,rfl,ae.f rfl (ar _ h)⟩
  ·exact⟨_,rfl,ae.t rfl (.inr h)⟩
 ·intro u next hI
  refine⟨_,_,rfl,ae.f (by simp) (.inl ?_)⟩
  simpa using hI
theorem MZ(e:List PV){fe fp:Fn}{ea eb pa pb:List PV}:Pure prog 16 [.fn fp pa pb,.fn fe ea eb] (.fn (.func 55) [] [.bl [.fn fe ea eb] 0,.bl [.fn fp pa pb] 0]):=ax.of (wZ.c rfl)
theorem Ek{ps:List Prod}(hp:∀p∈ps,Bk p):∀p∈dP ps,Gm p:=λp h=>by
 obtain⟨h1,h2⟩:=List.mem_filter.1 h
 exact⟨by simpa using h2,(hp p h1).1⟩
set_option maxRecDepth 100000
section
variable {w:World}
theorem xG:prog.cellsOf 278=4:=by kernel_rfl
theorem Oo:prog.cellsOf 280=9:=by kernel_rfl
theorem OD:prog.cellsOf 282=19:=by kernel_rfl
theorem Td:prog.cellsOf 51=1:=by kernel_rfl
theorem Ot:prog.cellsOf 53=3:=by kernel_rfl
theorem Cj(n:Nat)(cs:List Value)(h:Reads prog w n 278 cs):∃s:Atom,aY (fj w) s.pv cs/\True:=by
 obtain⟨m,rfl,hl,hf⟩:=h.struct underlying278
 rw[xG]at hl
 obtain⟨i0,e0,_⟩:=(bW hf 0 0 gB rfl rfl rfl).Cn underlying9
 obtain⟨s,e1,_⟩:=mV _ _ (bW hf 1 1 lG rfl rfl rfl)
 match cs,hl with
 |[x0,x1,x2,x3],_=>exact⟨⟨_,s⟩,e0.append e1,trivial⟩
theorem Ym(n:Nat)(cs:List Value)(h:Reads prog w n 280 cs):∃s:Term,aY (fj w) s.pv cs/\True:=by
 obtain⟨m,rfl,hl,hf⟩:=h.struct underlying280
 rw[Oo]at hl
 obtain⟨i0,e0,_⟩:=(bW hf 0 0 fF rfl rfl rfl).kV underlying3
 obtain⟨a,e1,_⟩:=Cj _ _ (bW hf 1 1 xG rfl rfl rfl)
 obtain⟨b,e2,_⟩:=Cj _ _ (bW hf 2 5 xG rfl rfl rfl)
 match cs,hl with
 |[x0,x1,x2,x3,x4,x5,x6,x7,x8],_=>exact⟨⟨_,a,b⟩,(e0.append e1).append e2,trivial⟩
theorem Yu(n:Nat)(cs:List Value)(h:Reads prog w n 282 cs):∃s:kt,aY (fj w) s.pv cs/\True:=by
 obtain⟨m,rfl,hl,hf⟩:=h.struct underlying282
 rw[OD]at hl
 obtain⟨i0,e0,_⟩:=(bW hf 0 0 gB rfl rfl rfl).Cn underlying9
 obtain⟨a,e1,_⟩:=Cj _ _ (bW hf 1 1 xG rfl rfl rfl)
 obtain⟨t,e2,_⟩:=Ym _ _ (bW hf 2 5 Oo rfl rfl rfl)
 obtain⟨i3,e3,_⟩:=(bW hf 3 14 fF rfl rfl rfl).kV underlying3
 obtain⟨o,e4,_⟩:=Cj _ _ (bW hf 4 15 xG rfl rfl rfl)
 match cs,hl with
 |[x0,x1,x2,x3,x4,x5,x6,x7,x8,x9,x10,x11,x12,x13,VQ,x15,x16,x17,x18],_=>exact⟨⟨_,a,t,_,o⟩,(((e0.append e1).append e2).append e3).append e4,trivial⟩
theorem Yn(n:Nat)(cs:List Value)(h:Reads prog w n 53 cs):∃p:az.Prod,aY (fj w) p.pv cs/\True:=by
 obtain⟨m,rfl,hl,hf⟩:=h.struct underlying53
 rw[Ot]at hl
 obtain⟨i0,e0,_⟩:=(bW hf 0 0 gB rfl rfl rfl).Cn underlying9
 obtain⟨c,e1,_⟩:=Tq _ _ (bW hf 1 1 JH rfl rfl rfl)
 obtain⟨a,e2,_⟩:=(bW hf 2 2 Td rfl rfl rfl).lK (pv:=kt.pv) (Q:=λ_=>True) underlying51 OD (by omega) λm' cN hm hr=>Yu m' cN hr
 match cs,hl with
 |[x0,x1,x2],_=>exact⟨⟨_,c,a⟩,(e0.append e1).append e2,trivial⟩
end
open Classical
def abe(es:List av)(i:ma):Prop:=i.name=⟨#[]⟩/\∃t∈i.tags,¬ ∃e∈es,e.tag=t
def abl(l:List ma):List Mt:=cx [] ((l.filter λi=> !aG i.name ⟨#[]⟩).map λi=>⟨i.name,i.tags⟩)
theorem abo{l:List ma}{k:Nat}(hk:k<l.length):abl (l.take (k+1))=if !aG l[k].name ⟨#[]⟩then gz (abl (l.take k)) ⟨l[k].name,l[k].tags⟩else abl (l.take k):=by
 unfold abl
 rw[List.take_add_one,List.getElem?_eq_getElem hk,List.filter_append,List.map_append]
 cases h:(!aG l[k].name ⟨#[]⟩)with
 |true=>simp only[Option.toList_some,List.filter_cons,h,if_true,List.filter_nil,List.map_cons,List.map_nil];rw[wH]
 |false=>simp[h]
theorem abm(l:List ma):(abl l).length<=l.length:=by
 unfold abl
 rw[jW,List.length_map]
 have:=List.length_filter_le (λi:ma=> !aG i.name ⟨#[]⟩) l
 simp only[List.length_nil];omega
theorem abn{l:List ma}{m:Mt}(h:m∈abl l):∃i∈l,m=⟨i.name,i.tags⟩:=by
 rcases(ee _ _ _).1 h with h|h
 ·cases h
 ·obtain⟨i,hi,rfl⟩:=List.mem_map.1 h
  exact⟨i,(List.mem_filter.1 hi).1,rfl⟩
def aaO(es:List av)(l:List ma)(m:List Mt):Prop:=(∀i∈l,¬abe es i)/\abl l=m
theorem abE{α:Type}{l:List α}{k:Nat}(hk:k<l.length){p:α->Prop}(h:∀x∈l.take k,p x)(h2:p l[k]):∀x∈l.take (k+1),p x:=λx hx=>by
 rcases(Mh hk).1 hx with hx|rfl
 ·exact h x hx
 ·exact h2
theorem abv(a b:Mt):(!qa a b&& !qa b a)=decide (a=b):=by
 by_cases h:a=b
 ·subst h
  have:qa a a=false:=decide_eq_false (by rw[(qg.zero _ _).2 rfl];omega)
  rw[this,decide_eq_true rfl];rfl
 ·rw[decide_eq_false h]
  have hz:kr (lz a) (lz b)≠0:=λe=>h (CI ((qg.zero _ _).1 e))
  have hz2:kr (lz b) (lz a)≠0:=λe=>h (CI ((qg.zero _ _).1 e)).symm
  have hf:=qg.flip (lz b) (lz a)
  cases h1:qa a b with
  |true=>rfl
  |false=>
   have h1:¬kr (lz a) (lz b)<0:=of_decide_eq_false h1
   have h2:qa b a=true:=decide_eq_true (by omega)
   rw[h2];rfl
theorem abk(f1 f2:Fl)(a b:Mt)(ha:a.tags.length<=1000000)(hb:b.tags.length<=1000000):Pure prog 64 [.agg [pS a.name,.list 1 f1 (a.tags.map dU)],.agg [pS b.name,.list 1 f2 (b.tags.map dU)]] (pB (decide (a=b))):=by
 refine ax.of (JP.c ((RK .sh .sh a b ha hb).call ⟨_,rfl,ae.mk (λh=>(RK .sh .sh b a hb ha).call ⟨_,rfl,?_⟩) (λh=>?_)⟩))
 ·rw[<- abv,h,Bool.true_and];rfl
 ·rw[<- abv,h];rfl
theorem abi(v:a_)(hv:v.Ok)(bm:TT v.elems)(htg:∀i∈v.insts,i.tags.length<=1000000){ps:List Prod}(hl:ps.length<=8)(hp:∀p∈ps,Gm p)(f:Fl):
  ax prog 22 [.agg v.pv,.list 3 f (ps.map Prod.pv)] λp=>p=.aC [pB false,pB false]\/p=.aC [pB (decide (aaO v.elems v.insts (et v.elems ps))),pB true]/\(et v.elems ps).length<=10000000/\∀m∈et v.elems ps,m.tags.length<=900000:=by
 have he:=hv.e;have hi:=hv.i
 refine ax.of (Lq.c ?_)
 refine ax.call (IH (es:=v.elems) (by omega) bm hl hp f .sh) ?_
 rintro w (rfl|⟨rfl,uE,hmt⟩)
 ·exact⟨_,_,_,rfl,ae.t rfl (.inl rfl)⟩
 refine⟨_,_,_,rfl,ae.f rfl ?_⟩
 have no:¬aaO v.elems v.insts (et v.elems ps)->PV.aC [pB false,pB true]=.aC [pB (decide (aaO v.elems v.insts (et v.elems ps))),pB true]:=λh=>by rw[decide_eq_false h]
 refine aj.ed (n:=v.insts.length) (by omega) (λk s u=>s.2=(abl (v.insts.take k)).map Mt.pv/\∀i∈v.insts.take k,¬abe v.elems i) ⟨rfl,by simp⟩ ?_ ?_
 ·rintro k ⟨g,_⟩ u next hk ⟨rfl,hb⟩ ar
  have iu:=abo hk
  have hln:=abm (v.insts.take k)
  rw[List.length_take]at hln
  refine ae.t (by simpa using hk) ⟨by omega,_,aI hk,_,_,_,_,_,_,rfl,ae.mk (λh=>?_) (λh=>?_)⟩
  ·refine(WY (abl (v.insts.take k)) ⟨v.insts[k].name,v.insts[k].tags⟩ g .sh (by omega) (htg _ (List.getElem_mem hk)) (λt ht=>?_)).call ⟨_,_,rfl,ar _ _ ⟨?_,abE hk hb λ⟨e,_⟩=>?_⟩⟩
   ·obtain⟨i,h1,rfl⟩:=abn ht
    exact htg i (List.mem_of_mem_take h1)
   ·rw[iu,if_pos h]
   ·rw[e,rq]at h;cases h
  ·have hn:v.insts[k].name=⟨#[]⟩:=cf.1 (by simpa using h)
   have ir:=htg _ (List.getElem_mem hk)
   refine aj.each (n:=v.insts[k].tags.length) (by omega) (λj u=>∀t∈v.insts[k].tags.take j,∃e∈v.elems,e.tag=t) (by simp) ?_ ?_
   ·intro j u1 EM hj hI mE
    refine ae.t (by simpa using hj) ⟨by omega,_,aI hj,_,rfl,(Vf v hv v.insts[k].tags[j]).call ⟨_,rfl,ae.mk (λh1=>?_) (λh1=>mE _ (abE hj hI (by simpa using h1)))⟩⟩
    refine .inr ⟨no λhq=>hq.1 _ (List.getElem_mem hk) ⟨hn,_,List.getElem_mem hj,by simpa using h1⟩,uE,hmt⟩
   ·intro u1 EM hI
    rw[List.take_length]at hI
    refine ae.f (by simp) (ar _ _ ⟨?_,abE hk hb λ⟨_,t,ht,iA⟩=>iA (hI t ht)⟩)
    rw[iu,if_neg (by rw[h];simp)]
 ·rintro⟨g,_⟩ u next ⟨rfl,hb⟩
  rw[List.take_length]at hb |-
  have hln:=abm v.insts
  refine ae.f (by simp) (ae.mk (λh=>.inr ⟨no λhq=>?_,uE,hmt⟩) (λh=>?_))
  ·rw[hq.2]at h;simp at h
  ·have hlen:(abl v.insts).length=(et v.elems ps).length:=by
    have h:((((abl v.insts).map Mt.pv).length:Nat):Int)=(((et v.elems ps).map Mt.pv).length:Nat):=by simpa using h
    simp only[List.length_map]at h;omega
   refine aj.each (n:=(et v.elems ps).length) (by omega) (λj u=>∀(q:Nat) (h1:q<(et v.elems ps).length) (h2:q<(abl v.insts).length),q<j->(et v.elems ps)[q]=(abl v.insts)[q]) (λq h1 h2 h3=>by omega) ?_ ?_
   ·intro j u1 EM hj hI mE
    have Ur:j<(abl v.insts).length:=by omega
    have ht2:(abl v.insts)[j].tags.length<=1000000:=by
     obtain⟨i,h1,h2⟩:=abn (List.getElem_mem Ur)
     rw[h2];exact htg i h1
    refine ae.t (by simpa using hj) ⟨by omega,_,aI hj,_,_,_,rfl,by omega,_,aI Ur,_,_,_,rfl,(abk .sh .sh _ _ (by have:=hmt _ (List.getElem_mem hj);omega) ht2).call ⟨_,rfl,ae.mk (λh1=>.inr ⟨no λhq=>?_,uE,hmt⟩) (λh1=>mE _ λq a1 a2 a3=>?_)⟩⟩
    ·have h1:(et v.elems ps)[j]≠(abl v.insts)[j]:=by simpa using h1
     exact h1 (by simp only[hq.2])
    ·by_cases e:q=j
     ·subst e;simpa using h1
     ·exact hI q a1 a2 (by omega)
   ·intro u1 EM hI
    refine ae.f (by simp) (.inr ⟨?_,uE,hmt⟩)
    rw[decide_eq_true];· rfl
    exact⟨hb,List.ext_getElem hlen λq a1 a2=>(hI q a2 a1 a2).symm⟩
theorem abj(v:a_)(hv:v.Ok)(bm:TT v.elems)(htg:∀i∈v.insts,i.tags.length<=1000000){ps:List Prod}(hl:ps.length<=8)(hp:∀p∈ps,Gm p)(uE:(et v.elems ps).length<=10000000)(hmt:∀m∈et v.elems ps,m.tags.length<=900000):
  Pure prog 23 [.agg v.pv,.fn (.func 60) [] [.bl [.list 3 .sh (ps.map Prod.pv)] 0]] (pB (decide (aaO v.elems v.insts (et v.elems ps)))):=by
 have he:=hv.e;have hi:=hv.i
 have oN:=LY bm ps
 have Za:=Hb (jY.ofP (Cd v.elems (by omega))) (OS ps (by omega)) (by omega) hl hp (by rw[oN];exact uE)
 rw[oN]at Za
 generalize hM:et v.elems ps=M at uE hmt Za |-
 have no:¬aaO v.elems v.insts M->pB false=pB (decide (aaO v.elems v.insts M)):=λh=>by rw[decide_eq_false h]
 refine ax.of (kM.c λb5 Sv=>?_)
 have O1:=vK.new (Ow.new (L:=[]) (μ:=M0) 112 [.list 2 .nil []] trivial Sv)
 refine(RD .sh v.elems).call ⟨_,_,_,rfl,(MZ []).call ⟨_,_,_,rfl,?_⟩⟩
 refine bJ.ac4 Za (Ow.Sk O1) (λk u=>Ow (vK b5 112 2 ((M.take k).map Mt.pv)::[]) u) (λ_ _=>False) (λk=>eG.own _) (λ_ _ _ _ h=>h.elim) (λμ' h'=>h') ?_ ?_ (λc u h=>?_)
 ·rintro k qw u R h2 dF _
  have eQ:k<M.length:=by simpa using qw
  rw[List.getElem_map]
  refine⟨_,_,_,rfl,?_⟩
  refine vK.go 0 h2 rfl (by simp;omega) (by simp;omega) λu4 h4=>dF _ ?_
  rw[CD eQ];exact h4
 ·intro u h
  rw[List.length_map]at h
  have h2:Ow ((λ_=>True)::vK b5 112 2 ((M.take M.length).map Mt.pv)::[]) u:=h.tail λ_ h=>h.TD
  rw[List.take_length]at h2
  dsimp only[PK]
  refine KA.gX h2.drop .nil [] (by simp) λu7 nb h0=>⟨_,rfl,?_⟩
  refine aj.each (n:=v.elems.length) (by omega) (λk u=>Ow (KA.At nb (cr fB KA.key [] ((v.elems.take k).map av.tag))::vK b5 112 2 (M.map Mt.pv)::[]) u) h0 ?_ ?_
  ·rintro k u8 adf hk h8 Zi
   have hft:=(dp (key:=KA.key) eK ((v.elems.take k).map av.tag) (a:=[])).1
   rw[List.length_map,List.length_take]at hft
   simp only[List.length_nil]at hft
   have e1:v.elems.take (k+1)=v.elems.take k++[v.elems[k]]:=by rw[List.take_add_one,List.getElem?_eq_getElem hk];rfl
   refine ae.t (by simpa using hk) ⟨by omega,_,aI hk,_,_,_,_,_,_,_,_,_,_,_,_,rfl,?_⟩
   refine KA.f_ (l:=cr fB KA.key [] ((v.elems.take k).map av.tag)) h8 (dV eK _ List.Pairwise.nil) (by omega) v.elems[k].tag λu9 h9=>⟨_,rfl,Zi _ ?_⟩
   rw[e1,List.map_append,List.map_singleton,eS]
   exact h9
  ·rintro u8 adf h8
   rw[List.take_length]at h8
   refine ae.f (by simp) ?_
   have hT:cr fB KA.key [] (v.elems.map av.tag)=sZ v:=rfl
   rw[hT]at h8
   have hTl:=LH v
   refine aj.ed (n:=v.insts.length) (by omega) (λk s u=>Ow (jD 118 2 (pV s.1 s.2.1 s.2.2) ((abl (v.insts.take k)).map Mt.pv)::KA.At nb (sZ v)::vK b5 112 2 (M.map Mt.pv)::[]) u/\∀i∈v.insts.take k,¬abe v.elems i) ⟨jD.nil _ _ h8,by simp⟩ ?_ ?_
   ·rintro k ⟨a,n,c⟩ u10 next hk ⟨hO,hb⟩ ar
    dsimp only at hO |-
    have iu:=abo hk
    have hln:=abm (v.insts.take k)
    rw[List.length_take]at hln
    refine ae.t (by simpa using hk) ⟨by omega,_,aI hk,_,_,_,_,_,_,rfl,ae.mk (λh=>?_) (λh=>?_)⟩
    ·refine aeS (abl (v.insts.take k)) ⟨v.insts[k].name,v.insts[k].tags⟩ (by omega) (htg _ (List.getElem_mem hk)) (λt ht=>?_) hO λa' c' u11 h11=>⟨_,_,_,rfl,ar (a',(abl (v.insts.take k)).length+1,c') _ ⟨?_,abE hk hb λ⟨e,_⟩=>?_⟩⟩
     ·obtain⟨i,h1,rfl⟩:=abn ht
      exact htg i (List.mem_of_mem_take h1)
     ·rw[iu,if_pos h];exact h11
     ·rw[e,rq]at h;cases h
    ·have hn:v.insts[k].name=⟨#[]⟩:=cf.1 (by simpa using h)
     have ir:=htg _ (List.getElem_mem hk)
     refine aj.each (n:=v.insts[k].tags.length) (by omega) (λj u=>Ow (jD 118 2 (pV a n c) ((abl (v.insts.take k)).map Mt.pv)::KA.At nb (sZ v)::vK b5 112 2 (M.map Mt.pv)::[]) u/\∀t∈v.insts[k].tags.take j,∃e∈v.elems,e.tag=t) ⟨hO,by simp⟩ ?_ ?_
     ·rintro j u1 EM hj ⟨MI,hI⟩ mE
      refine ae.t (by simpa using hj) ⟨by omega,_,aI hj,_,rfl,?_⟩
      refine fQ.c ?_
      refine KA.gL (l:=sZ v) (Ow.ord [1] MI) (OP v) (by omega) v.insts[k].tags[j] ⟨_,_,rfl,_,rfl,?_⟩
      rw[show(bI KA.ck KA.key (KA.key v.insts[k].tags[j]) (sZ v)).isSome=decide (∃e∈v.elems,e.tag=v.insts[k].tags[j])from LI v _]
      refine ae.mk (λh1=>?_) (λh1=>mE _ ⟨MI,abE hj hI (by simpa using h1)⟩)
      exact no λhq=>hq.1 _ (List.getElem_mem hk) ⟨hn,_,List.getElem_mem hj,by simpa using h1⟩
     ·rintro u1 EM ⟨MI,hI⟩
      rw[List.take_length]at hI
      refine ae.f (by simp) (ar (a,n,c) _ ⟨?_,abE hk hb λ⟨_,t,ht,iA⟩=>iA (hI t ht)⟩)
      rw[iu,if_neg (by rw[h];simp)];exact MI
   ·rintro⟨a,n,c⟩ u10 next ⟨hO,hb⟩
    dsimp only at hO |-
    rw[List.take_length]at hb hO
    have hn:=jD.len 0 hO rfl
    rw[List.length_map]at hn
    subst hn
    have hln:=abm v.insts
    obtain⟨f1,hf1⟩:=vK.rd 2 hO rfl
    refine ae.f (by simp) ⟨f1,_,hf1,ae.mk (λh=>no λhq=>?_) (λh=>⟨f1,_,hf1,?_⟩)⟩
    ·rw[hq.2]at h;simp at h
    ·have hlen:(abl v.insts).length=M.length:=by
      have h:(((M.map Mt.pv).length:Nat):Int)=((abl v.insts).length:Nat):=by simpa using h
      rw[List.length_map]at h;omega
     refine aj.each (n:=M.length) (by omega) (λj u=>Ow (jD 118 2 (pV a (abl v.insts).length c) ((abl v.insts).map Mt.pv)::KA.At nb (sZ v)::vK b5 112 2 (M.map Mt.pv)::[]) u/\∀(q:Nat) (h1:q<M.length) (h2:q<(abl v.insts).length),q<j->M[q]=(abl v.insts)[q]) ⟨hO,λq h1 h2 h3=>by omega⟩ ?_ ?_
     ·rintro j u1 EM hj ⟨MI,hI⟩ mE
      have Ur:j<(abl v.insts).length:=by omega
      have ht2:(abl v.insts)[j].tags.length<=1000000:=by
       obtain⟨i,h1,h2⟩:=abn (List.getElem_mem Ur)
       rw[h2];exact htg i h1
      obtain⟨b3,rfl,eF,_⟩:=jD.at_ 0 MI rfl (yn _) (j:=j) (by simpa using Ur)
      refine ae.t (by simpa using hj) ⟨by omega,_,aI hj,_,_,_,rfl,by omega,by omega,(abl v.insts)[j].name,.sh,(abl v.insts)[j].tags.map dU,?_,?_⟩
      ·rw[Int.toNat_natCast]
       have:=eF 0 2 (by omega)
       rw[List.getElem_map]at this
       exact this
      refine ax.call (aeR .sh .sh M[j] (abl v.insts)[j] (by have:=hmt _ (List.getElem_mem hj);omega) ht2) ?_
      rintro _ ⟨cc,rfl,WE,hc2⟩
      refine⟨_,rfl,ae.mk (λh1=>no λhq=>?_) (λh1=>mE _ ⟨MI,λq a1 a2 a3=>?_⟩)⟩
      ·have h1:cc≠0:=by simpa using h1
       exact h1 (hc2.2 (by simp only[hq.2]))
      ·by_cases e:q=j
       ·subst e;exact hc2.1 (by simpa using h1)
       ·exact hI q a1 a2 (by omega)
     ·rintro u1 EM ⟨MI,hI⟩
      refine ae.f (by simp) ?_
      rw[decide_eq_true];· rfl
      exact⟨hb,List.ext_getElem hlen λq a1 a2=>(hI q a2 a1 a2).symm⟩
 ·obtain⟨_,_,_,_,_,_,_,_,_,h,_⟩:=h
  exact h.elim
def abq(l:List Mt):Nat->List ma:=λk=>(List.range k).filterMap λi=>(l[i]?).map λm=>⟨((i:Nat):Int)+1,1,m.name,m.tags,false⟩
theorem abu{l:List Mt}{k:Nat}(hk:k<l.length):abq l (k+1)=abq l k++[⟨((k:Nat):Int)+1,1,l[k].name,l[k].tags,false⟩]:=by
 unfold abq
 rw[List.range_succ,List.filterMap_append]
 simp[List.getElem?_eq_getElem hk]
theorem abr{l:List Mt}:∀{k:Nat},k<=l.length->(abq l k).length=k
 |0,_=>rfl
 |k+1,h=>by rw[abu (show k<l.length by omega),List.length_append,abr (by omega)];rfl
theorem abt{l:List Mt}:∀{k:Nat},k<=l.length->∀i∈abq l k,∃m∈l,i.name=m.name/\i.tags=m.tags
 |0,_,i,h=>by simp[abq]at h
 |k+1,hk,i,h=>by
  rw[abu (show k<l.length by omega)]at h
  rcases List.mem_append.1 h with h|h
  ·exact abt (by omega) i h
  ·simp only[List.mem_singleton]at h
   subst h
   exact⟨_,List.getElem_mem (show k<l.length by omega),rfl,rfl⟩
theorem abd{l:List Mt}(hu:dh kr lz l):cx [] l=l:=by
 have hn:l.Nodup:=List.Pairwise.imp (λ{a b} h e=>by
  subst e
  rw[(qg.zero _ _).2 rfl]at h;omega) hu
 refine dh.ext qg (vz List.Pairwise.nil hn (by simp)) hu λy=>?_
 rw[ee];simp
theorem abA{es:List av}(h:TT es)(ps:List Prod):dh kr lz (et es ps):=by
 refine vz List.Pairwise.nil (rY (HQ h) (λp m hm=>?_) (mG ps [])) (by simp)
 unfold kp at hm;obtain⟨t,_,rfl⟩:=List.mem_map.1 hm;rfl
theorem abz{es:List av}{ps:List Prod}(hp:∀p∈ps,Gm p):∀m∈et es ps,m.name≠⟨#[]⟩:=λm hm=>by
 rcases(ee _ _ _).1 hm with h|h
 ·cases h
 ·obtain⟨p,h1,h2⟩:=List.mem_flatMap.1 h
  unfold kp at h2
  obtain⟨t,_,rfl⟩:=List.mem_map.1 h2
  have h3:=(BC (hp p (tP h1).1).chk).1
  unfold dz at h3
  cases hw:ku p.name with
  |false=>rw[hw]at h3;simp at h3
  |true=>exact SU hw
theorem abB{es:List av}{ps:List Prod}(h:TT es)(hp:∀p∈ps,Gm p):aaO es (abq (et es ps) (et es ps).length) (et es ps):=by
 have hnm:=abz (es:=es) hp
 refine⟨λi hi hb=>?_,?_⟩
 ·obtain⟨m,hm,e1,_⟩:=abt (Nat.le_refl _) i hi
  exact hnm m hm (e1▸hb.1)
 ·have key:∀k,k<=(et es ps).length->((abq (et es ps) k).filter λi=> !aG i.name ⟨#[]⟩).map (λi=>(⟨i.name,i.tags⟩:Mt))=(et es ps).take k:=by
   intro k
   induction k with
   |zero=>intro _;rfl
   |succ k ih=>
    intro hk
    have eQ:k<(et es ps).length:=by omega
    have bm:(!aG (et es ps)[k].name ⟨#[]⟩)=true:=by
     cases hs:aG (et es ps)[k].name ⟨#[]⟩with
     |false=>rfl
     |true=>exact absurd (cf.1 hs) (hnm _ (List.getElem_mem eQ))
    have ir:(et es ps).take (k+1)=(et es ps).take k++[(et es ps)[k]]:=by rw[List.take_add_one,List.getElem?_eq_getElem eQ];rfl
    rw[abu eQ,List.filter_append,List.map_append,ih (by omega),ir]
    congr 1
    rw[List.filter_cons,if_pos bm]
    rfl
  unfold abl
  rw[key _ (Nat.le_refl _),List.take_length]
  exact abd (abA h ps)
theorem abh(v:a_):ax prog 6 [.agg v.pv] λp=>∃q:Bool,p=pB q/\(q=false->v.Ok/\∀i∈v.insts,i.tags.length<=20):=by
 refine ax.of (mb.c ?_)
 refine ax.call (KT .sh v.elems 40 (by omega)) ?_
 rintro _ ⟨q,rfl,hq⟩
 refine⟨_,rfl,ae.mk (λ_=>⟨true,rfl,λh=>by cases h⟩) (λh0=>ae.mk (λ_=>⟨true,rfl,λh=>by cases h⟩) (λh1=>ae.mk (λ_=>⟨true,rfl,λh=>by cases h⟩) (λh2=>ae.mk (λ_=>⟨true,rfl,λh=>by cases h⟩) (λh3=>ae.mk (λ_=>⟨true,rfl,λh=>by cases h⟩) (λh4=>?_)))))⟩
 have g0:=hq (nt h0)
 have g1:v.aS.length<=30:=by have:=of_decide_eq_false h1;simp at this;omega
 have g2:v.goals.length<=10:=by have:=of_decide_eq_false h2;simp at this;omega
 have g3:v.insts.length<=30:=by have:=of_decide_eq_false h3;simp at this;omega
 have g4:v.cD.length<=10:=by have:=of_decide_eq_false h4;simp at this;omega
 refine aj.each (n:=v.insts.length) (by omega) (λk _=>∀i∈v.insts.take k,i.tags.length<=20) (by simp) ?_ ?_
 ·intro k u next hk hI ar
  refine ae.t (by simpa using hk) ⟨by omega,_,aI hk,_,_,rfl,ae.mk (λ_=>⟨true,rfl,λh=>by cases h⟩) (λh5=>⟨by omega,_,aI hk,_,rfl,ae.mk (λ_=>⟨true,rfl,λh=>by cases h⟩) (λ_=>ar _ (abE hk hI ?_))⟩)⟩
  have:=of_decide_eq_false h5;simp at this;omega
 ·intro u next hJ
  rw[List.take_length]at hJ
  refine ae.f (by simp) ?_
  refine aj.each (n:=v.cD.length) (by omega) (λk u=>∀l∈v.cD.take k,l.length<=30) (by simp) ?_ ?_
  ·intro k u next hk hI ar
   refine ae.t (by simpa using hk) ⟨by omega,_,aI hk,_,_,rfl,ae.mk (λ_=>⟨true,rfl,λh=>by cases h⟩) (λh5=>ar _ (abE hk hI ?_))⟩
   have:=of_decide_eq_false h5;simp at this;omega
  ·intro u next hI
   rw[List.take_length]at hI
   refine ae.f (by simp) ?_
   refine aj.each (n:=v.goals.length) (by omega) (λ_ _=>True) trivial ?_ ?_
   ·intro k u next hk _ ar
    exact ae.t (by simpa using hk) ⟨by omega,_,aI hk,_,_,rfl,ae.mk (λ_=>⟨true,rfl,λh=>by cases h⟩) (λ_=>ar _ trivial)⟩
   ·intro u next _
    exact ae.f (by simp) ⟨false,rfl,λ_=>⟨⟨by omega,by omega,by omega,by omega,by omega,λl hl=>by have:=hI l hl;omega⟩,hJ⟩⟩
abbrev BT:=(Fl×Lq)×(Fl×Lq)×(Fl×Lq)×(Fl×Lq)×(Fl×Lq)×(Fl×Lq)×Int×Int×Int×Int×Int×Int×Int
structure IsV(s:BT)(w:a_):Prop where
 e:s.1.2=w.elems.map av.pv
 p:s.2.1.2=w.aS.map eC.pv
 g:s.2.2.1.2=w.goals.map Goal.pv
 i:s.2.2.2.1.2=w.insts.map ma.pv
 d:s.2.2.2.2.1.2=w.cD.map Da
 r:s.2.2.2.2.2.1.2=w.JX.map OG
 n1:s.2.2.2.2.2.2.1=w.syms
 n2:s.2.2.2.2.2.2.2.1=w.c1
 n3:s.2.2.2.2.2.2.2.2.1=w.c2
 n4:s.2.2.2.2.2.2.2.2.2.1=w.c3
 n5:s.2.2.2.2.2.2.2.2.2.2.1=w.c4
 n6:s.2.2.2.2.2.2.2.2.2.2.2.1=w.c5
 n7:s.2.2.2.2.2.2.2.2.2.2.2.2=w.c6
theorem abg(hw:xy)(v:a_)(ps:List Prod)(_:(∀s∈ps,True)/\ps.length<=maxLen)(fit:Bool):Pure prog 5 [.agg v.pv,.list 3 .sh (ps.map Prod.pv),pB fit] (pB true):=by
 refine ax.of (kR.c ⟨λs u=>s=false->((v.Ok/\∀i∈v.insts,i.tags.length<=20)/\ps.length<=5/\∀p∈ps,Bk p)/\v.elems.length<=24,?_,?_⟩)
 ·refine ax.call (abh v) ?_
  rintro _ ⟨q,rfl,hq⟩
  refine⟨_,rfl,ae.mk (λh e=>by cases e) (λh=>ax.call (FZ .sh ps 5 (by omega)) ?_)⟩
  rintro _ ⟨q2,rfl,Wo⟩
  refine⟨_,rfl,ae.mk (λh e=>by cases e) (λh2 e=>⟨⟨hq h,Wo h2⟩,?_⟩)⟩
  have:=of_decide_eq_false e;simp at this;omega
 rintro s u hs
 refine ae.mk (λh=>hw _ _ λμ'=>⟨_,rfl,rfl⟩) (λh=>?_)
 obtain⟨⟨⟨hv,htg⟩,q_,GD⟩,NF⟩:=hs h
 have Ag:(dP ps).length<=5:=Nat.le_trans (List.length_filter_le _ _) q_
 have Wk:(ko 0 v.elems).length<=24:=by rw[xF];exact NF
 refine(Rq .sh ps (by omega) GD).call ⟨_,_,rfl,(MX .sh v.elems (by omega)).call ⟨_,_,rfl,?_⟩⟩
 have bm:=BW v.elems 0
 have hro:=Ek GD
 refine⟨λs u=>∃w:a_,IsV s w/\w.Ok/\w.elems=ko 0 v.elems/\(∀i∈w.insts,i.tags.length<=1000000)/\(fit=true->aaO w.elems w.insts (et w.elems (dP ps))),ae.mk (λhf=>?_) (λhf=>?_),?_⟩
 ·refine ax.call (IH (es:=ko 0 v.elems) (by omega) bm (by omega) hro .sh .sh) ?_
  rintro r (rfl|⟨rfl,uE,hmt⟩)
  ·exact⟨_,_,_,rfl,λs u=>s=true,ae.t rfl rfl,λs u e=>ae.t e (hw _ _ λμ'=>⟨_,rfl,rfl⟩)⟩
  refine⟨_,_,_,rfl,λs u=>s=false->(et (ko 0 v.elems) (dP ps)).length<=200,ae.f rfl (λe=>by have:=of_decide_eq_false e;simp at this;omega),λs u hs=>ae.mk (λh=>hw _ _ λμ'=>⟨_,rfl,rfl⟩) (λh=>?_)⟩
  have Fm:=hs h
  have hqf:=abB bm hro
  generalize hM:et (ko 0 v.elems) (dP ps)=M at uE hmt Fm hqf |-
  refine aj.ed (n:=M.length) (by omega) (λk s u=>IsV s {v with elems:=ko 0 v.elems,insts:=abq M k}/\Ow [m_ s.2.2.2.1.1 k 5] u) ⟨⟨rfl,rfl,rfl,rfl,rfl,rfl,rfl,rfl,rfl,rfl,rfl,rfl,rfl⟩,Ow.nil (L:=[]) (μ:=_) trivial (.inl rfl)⟩ ?_ ?_
  ·rintro k ⟨⟨f1,l1⟩,⟨f2,l2⟩,⟨f3,l3⟩,⟨f4,l4⟩,⟨f5,l5⟩,⟨f6,l6⟩,n1,n2,n3,n4,n5,n6,n7⟩ u1 next hk ⟨hi,hO⟩ ar
   have h4:=hi.i
   dsimp only at h4 hO
   subst h4
   have ew:IntKind.wrap .i64 ((k:Int)+1)=(k:Int)+1:=aB (by omega) (by omega)
   refine ae.t (by simpa using hk) ⟨by omega,_,aI hk,_,rfl,by omega,_,aI hk,_,_,rfl,?_⟩
   refine hO.app (by rw[List.length_map];exact abr (by omega)) (by simp;omega) (by simp;omega) λg2 u2 h5=>ar _ _ ⟨?_,h5⟩
   refine⟨hi.e,hi.p,hi.g,?_,hi.d,hi.r,hi.n1,hi.n2,hi.n3,hi.n4,hi.n5,hi.n6,hi.n7⟩
   rw[ew]
   show(abq M k).map ma.pv++_=(abq M (k+1)).map ma.pv
   rw[abu hk,List.map_append];rfl
  ·rintro s u1 next ⟨hi,hO⟩
   refine ae.f (by simp) ⟨_,⟨hi.e,hi.p,hi.g,hi.i,hi.d,hi.r,hi.n1,hi.n2,hi.n3,hi.n4,hi.n5,hi.n6,hi.n7⟩,⟨by show(ko 0 v.elems).length<=1000;omega,hv.p,hv.g,by show(abq M M.length).length<=1000;rw[abr (Nat.le_refl _)];omega,hv.d,hv.ds⟩,rfl,λi hi2=>?_,λ_=>?_⟩
   ·obtain⟨m,hm,_,e2⟩:=abt (Nat.le_refl _) i hi2
    rw[e2];have:=hmt m hm;omega
   ·show aaO (ko 0 v.elems) (abq M M.length) (et (ko 0 v.elems) (dP ps))
    rw[hM];exact hqf
 ·refine⟨{v with elems:=ko 0 v.elems},⟨rfl,rfl,rfl,rfl,rfl,rfl,rfl,rfl,rfl,rfl,rfl,rfl,rfl⟩,⟨by show(ko 0 v.elems).length<=1000;omega,hv.p,hv.g,hv.i,hv.d,hv.ds⟩,rfl,λi hi=>by have:=htg i hi;omega,λe=>by rw[e]at hf;cases hf⟩
 ·rintro⟨⟨f1,l1⟩,⟨f2,l2⟩,⟨f3,l3⟩,⟨f4,l4⟩,⟨f5,l5⟩,⟨f6,l6⟩,n1,n2,n3,n4,n5,n6,n7⟩ u1 ⟨w,hi,aD,hwe,hwt,apZ⟩
  obtain⟨e1,e2,e3,e4,e5,e6,e7,e8,e9,e10,e11,e12,e13⟩:=hi
  dsimp only at e1 e2 e3 e4 e5 e6 e7 e8 e9 e10 e11 e12 e13 |-
  subst e1 e2 e3 e4 e5 e6 e7 e8 e9 e10 e11 e12 e13
  have abp:TT w.elems:=by rw[hwe];exact bm
  refine ax.call (abi w aD abp hwt (by omega) hro .sh) ?_
  rintro r (rfl|⟨rfl,uE,hmt⟩)
  ·exact⟨_,_,rfl,ae.t rfl (hw _ _ λμ'=>⟨_,rfl,rfl⟩)⟩
  refine⟨_,_,rfl,ae.f rfl ((aao .sh (dP ps)).q ⟨_,_,_,rfl,(abj w aD abp hwt (by omega) hro uE hmt).call ⟨_,rfl,ae.t (by simp) (ae.mk (λh=>hw _ _ λμ'=>⟨_,rfl,rfl⟩) (λh=>ae.t ?_ (hw _ _ λμ'=>⟨_,rfl,rfl⟩)))⟩⟩)⟩
  exact decide_eq_true (apZ (by simpa using h))
theorem abR:xy:=λμ K h=>runT μ h
theorem abf(v:a_)(ps:List Prod)(hp:(∀s∈ps,True)/\ps.length<=maxLen)(fit:Bool):Pure prog 5 [.agg v.pv,.list 3 .sh (ps.map Prod.pv),pB fit] (pB true):=abg abR v ps hp fit
open Go.ChangeShapes Go.WideShapes Go.ChangeAt
theorem Co:ownKnob prog.godebug=none:=by kernel_rfl
theorem gF:laidOutB Tryz.checked.prog=true/\mapsRowed Tryz.checked.prog=true/\Tryz.checked.prog.plainKeys=true:=Go.ClosedOfChecked.closed_of_checked Tryz.checked (by kernel_rfl) (by kernel_rfl) (by kernel_rfl)
theorem oe:laidOutB prog=true:=gF.1
set_option maxRecDepth 100000 in
theorem AuditQuiets.lifted(os:Os)(started:os.Started)(H:Type)(enc:TypeId×Value->H):
  ReturnsInHanded {} Tryz.checked os 5 .any (Rows.auditQuietsSpec.pre6 enc prog f5 Rows.auditQuietsRow.domain false) (Rows.auditQuietsSpec.post enc prog f5 false true false false):=by
 refine returnsInHanded_of_change (C:=Tryz.checked) Co started (by kernel_rfl) func5
  (ChangeSpec.witness6 (enc:=enc) (C:=Tryz.checked) false ⟨#[],#[.agg #[.slice none 0 0,.slice none 0 0,.slice none 0 0,.slice none 0 0,.slice none 0 0,.slice none 0 0,.int .i64 0,.int .i64 0,.int .i64 0,.int .i64 0,.int .i64 0,.int .i64 0,.int .i64 0],.slice none 0 0,.bool false],[]⟩ 12 (by kernel_rfl) (by kernel_rfl) (by kernel_rfl) (by kernel_rfl)) ?_
 intro W base args ds gs before Fe hW ali _
 have CO:∀(j:Nat) t v,f5.params[j]?=some t->args[j]?=some v->Value.okWide prog W .any base t v:=Fe
 have hW':=hW
 obtain⟨p,q,hA0,hV,rfl,hfz,My⟩:=hW
 have hA:DataW.TrodAll enc prog W 0 (λ_=>true) true f5.params.toList args.toList ds p:=hA0
 rw[params5]at hA CO
 obtain⟨v0,vs0,d0,ds0,p0,q0,jP,rfl,rfl,h0,r0⟩:=trodAll_cons hA
 obtain⟨v1,vs1,d1,ds1,p1,q1,rfl,rfl,rfl,h1,r1⟩:=trodAll_cons r0
 obtain⟨v2,vs2,d2,ds2,p2,q2,rfl,rfl,rfl,h2,r2⟩:=trodAll_cons r1
 obtain⟨rfl,rfl,rfl⟩:=trodAll_nil r2
 obtain rfl:args= #[v0,v1,v2]:=by cases args;simp_all
 obtain⟨rfl,rfl⟩:=trodVars_none hV
 have lt0:∀x∈p0,x.block<W.heap.size:=by obtain⟨m,hm⟩:=h0;exact DataW.trod_lt m _ _ _ hm
 obtain⟨a0,e0,w0⟩:=TB underlying31 Yk (CO 0 31 v0 rfl rfl) h0
 have lt1:∀x∈p1,x.block<W.heap.size:=by obtain⟨m,hm⟩:=h1;exact DataW.trod_lt m _ _ _ hm
 obtain⟨a1,e1,w1⟩:=EA underlying35 Ot (by omega) Yn (CO 1 35 v1 rfl rfl) h1
 have lt2:∀x∈p2,x.block<W.heap.size:=by obtain⟨m,hm⟩:=h2;exact DataW.trod_lt m _ _ _ hm
 obtain⟨a2,b2⟩:=WideShapes.okWide_bool underlying4 (CO 2 4 v2 rfl rfl)
 have e2:bw (fj W) (.raw (.bool a2)) v2:=by rw[b2];exact .raw _ rfl rfl
 clear hA0 Fe
 refine(ax.calls (vs:=[v0,v1,v2]) (abf a0 a1 w1 a2) (bj.cons rfl e0 (bj.cons rfl e1 (bj.cons rfl e2 (bj.nil _))))).mono λe W' ⟨⟨v,x,Z,he,hr,hx⟩,bel⟩=>?_
 subst hx;subst he;rw[hr.ofRaw.1]
 exact⟨_,rfl,_,_,_,[],_,[],hW',trodAll_mk1 (shut_bool underlying4 _),(trodAll_cons_mk (Below.trod oe (by kernel_rfl) (of_decide_eq_true (by kernel_rfl)) h0 bel lt0) (trodAll_cons_mk (Below.trod oe (by kernel_rfl) (of_decide_eq_true (by kernel_rfl)) h1 bel lt1) (trodAll_cons_mk (Below.trod oe (by kernel_rfl) (of_decide_eq_true (by kernel_rfl)) h2 bel lt2) trodAll_mk0))),rfl,bel.frame _,λh=>by cases h⟩
theorem AuditQuiets.hm:Nat.ble 10 Tryz.checked.prog.types.size=true:=by kernel_rfl
theorem AuditQuiets.ML:lb Tryz.checked.prog 10 4=true:=by kernel_rfl
theorem AuditQuiets.fs4:((Tryz.checked.prog.grown 10 [4]).all λu=>(Tryz.checked.prog.partsOf u).all λv=>lb Tryz.checked.prog 10 v)=true:=by kernel_rfl
theorem AuditQuiets.Ip:lb Tryz.checked.prog 10 31=true:=by kernel_rfl
theorem AuditQuiets.alM:((Tryz.checked.prog.grown 10 [31]).all λu=>(Tryz.checked.prog.partsOf u).all λv=>lb Tryz.checked.prog 10 v)=true:=by kernel_rfl
theorem AuditQuiets.Io:lb Tryz.checked.prog 10 35=true:=by kernel_rfl
theorem AuditQuiets.alL:((Tryz.checked.prog.grown 10 [35]).all λu=>(Tryz.checked.prog.partsOf u).all λv=>lb Tryz.checked.prog 10 v)=true:=by kernel_rfl
theorem AuditQuiets.ep:f5.params.toList=[31,35,4]:=by kernel_rfl
theorem AuditQuiets.ev:f5.params.toList++Rows.auditQuietsSpec.plain.varTypes Tryz.checked.prog=[31,35,4]:=by kernel_rfl
theorem AuditQuiets.er:f5.resultTypes.toList=[4]:=by kernel_rfl
theorem AuditQuiets.vo4:Tryz.checked.prog.veiledOwn 4=true:=eW (by rw[Go.az.bX 10 AuditQuiets.hm AuditQuiets.ML];kernel_rfl)
theorem AuditQuiets.agl:Tryz.checked.prog.veiledOwn 31=true:=eW (by rw[Go.az.bX 10 AuditQuiets.hm AuditQuiets.Ip];kernel_rfl)
theorem AuditQuiets.agk:Tryz.checked.prog.veiledOwn 35=true:=eW (by rw[Go.az.bX 10 AuditQuiets.hm AuditQuiets.Io];kernel_rfl)
theorem AuditQuiets.vf:Rows.auditQuietsRow.veiledFits Tryz.checked.prog f5.params.toList (f5.params.toList++Rows.auditQuietsSpec.plain.varTypes Tryz.checked.prog++f5.resultTypes.toList)=true:=by
 rw[AuditQuiets.ev,AuditQuiets.er]
 have e:(Rows.auditQuietsRow.laid.filterMap λx=>(Tryz.checked.prog.globalNamed x.1).bind λg=>(Tryz.checked.prog.globals[g]?).map (·.type))=[]:=by kernel_rfl
 have ha:([31,35,4,4]).all (Tryz.checked.prog.veiledOwn ·)=true:=by simp only[List.all_cons,List.all_nil,Bool.and_true,AuditQuiets.vo4,AuditQuiets.agl,AuditQuiets.agk]
 unfold OpenClaim.veiledFits
 rw[e,List.append_nil]
 rw[Bool.and_eq_true,Bool.or_eq_true]
 exact⟨by kernel_rfl,.inl ha⟩
theorem and2{a b:Bool}(h:a=true)(k:b=true):(a&&b)=true:=by rw[h,k];rfl
set_option maxHeartbeats 0 in
theorem AuditQuiets.closed:joinedFacts Tryz.checked.prog 5 f5 Rows.auditQuietsSpec Rows.auditQuietsRow=true:=by
 unfold joinedFacts
 repeat' with_reducible apply and2
 ·as_aux_lemma=>kernel_rfl
 ·as_aux_lemma=>exact gF.1
 ·as_aux_lemma=>exact gF.2.1
 ·as_aux_lemma=>rw[<- Array.all_toList,AuditQuiets.ep];simp only[List.any_cons,List.any_nil,List.all_cons,List.all_nil,List.cons_append,List.nil_append,Go.az.dQ 10 AuditQuiets.hm AuditQuiets.ML,Go.az.dQ 10 AuditQuiets.hm AuditQuiets.Ip,Go.az.dQ 10 AuditQuiets.hm AuditQuiets.Io];kernel_rfl
 ·as_aux_lemma=>kernel_rfl
 ·as_aux_lemma=>kernel_rfl
 ·as_aux_lemma=>kernel_rfl
 ·as_aux_lemma=>kernel_rfl
 ·as_aux_lemma=>kernel_rfl
 ·as_aux_lemma=>kernel_rfl
 ·as_aux_lemma=>kernel_rfl
 ·as_aux_lemma=>kernel_rfl
 ·as_aux_lemma=>kernel_rfl
 ·as_aux_lemma=>rw[AuditQuiets.ev];simp only[List.any_cons,List.any_nil,List.all_cons,List.all_nil,List.cons_append,List.nil_append,Go.az.mapsRec_eq 10 AuditQuiets.hm AuditQuiets.ML,Go.az.mapsRec_eq 10 AuditQuiets.hm AuditQuiets.Ip,Go.az.mapsRec_eq 10 AuditQuiets.hm AuditQuiets.Io];kernel_rfl
 ·as_aux_lemma=>rw[AuditQuiets.ev];simp only[List.any_cons,List.any_nil,List.all_cons,List.all_nil,List.cons_append,List.nil_append,Go.az.ifacesRec_eq 10 AuditQuiets.hm AuditQuiets.ML,Go.az.ifacesRec_eq 10 AuditQuiets.hm AuditQuiets.Ip,Go.az.ifacesRec_eq 10 AuditQuiets.hm AuditQuiets.Io];kernel_rfl
 ·as_aux_lemma=>kernel_rfl
 ·as_aux_lemma=>rw[AuditQuiets.ev];simp only[List.any_cons,List.any_nil,List.all_cons,List.all_nil,List.cons_append,List.nil_append,Go.az.e_ 10 AuditQuiets.hm AuditQuiets.ML AuditQuiets.fs4,Go.az.e_ 10 AuditQuiets.hm AuditQuiets.Ip AuditQuiets.alM,Go.az.e_ 10 AuditQuiets.hm AuditQuiets.Io AuditQuiets.alL];kernel_rfl
 ·as_aux_lemma=>rw[AuditQuiets.ev,AuditQuiets.er];simp only[List.any_cons,List.any_nil,List.all_cons,List.all_nil,List.cons_append,List.nil_append,Go.az.dn 10 AuditQuiets.hm AuditQuiets.ML,Go.az.dn 10 AuditQuiets.hm AuditQuiets.Ip,Go.az.dn 10 AuditQuiets.hm AuditQuiets.Io];kernel_rfl
 ·as_aux_lemma=>kernel_rfl
 ·as_aux_lemma=>rw[<- Array.all_toList,AuditQuiets.er];simp only[List.any_cons,List.any_nil,List.all_cons,List.all_nil,List.cons_append,List.nil_append,Go.az.dQ 10 AuditQuiets.hm AuditQuiets.ML];kernel_rfl
 ·as_aux_lemma=>rw[AuditQuiets.er];simp only[List.any_cons,List.any_nil,List.all_cons,List.all_nil,List.cons_append,List.nil_append,Go.az.ifacesRec_eq 10 AuditQuiets.hm AuditQuiets.ML];kernel_rfl
 ·as_aux_lemma=>rw[AuditQuiets.er];simp only[List.any_cons,List.any_nil,List.all_cons,List.all_nil,List.cons_append,List.nil_append,Go.az.e_ 10 AuditQuiets.hm AuditQuiets.ML AuditQuiets.fs4];kernel_rfl
 ·as_aux_lemma=>rw[gF.2.2];kernel_rfl
 ·as_aux_lemma=>kernel_rfl
 ·as_aux_lemma=>kernel_rfl
 ·as_aux_lemma=>kernel_rfl
 ·as_aux_lemma=>kernel_rfl
 ·as_aux_lemma=>kernel_rfl
 ·as_aux_lemma=>kernel_rfl
 ·as_aux_lemma=>kernel_rfl
 ·as_aux_lemma=>rw[AuditQuiets.ev,AuditQuiets.er];simp only[List.any_cons,List.any_nil,List.all_cons,List.all_nil,List.cons_append,List.nil_append,Go.az.bX 10 AuditQuiets.hm AuditQuiets.ML,Go.az.bX 10 AuditQuiets.hm AuditQuiets.Ip,Go.az.bX 10 AuditQuiets.hm AuditQuiets.Io];kernel_rfl
 ·as_aux_lemma=>exact AuditQuiets.vf
theorem AuditQuiets.proved:Rows.AuditQuietsSaid:=
 OpenClaim.holds_of_wide 5 f5 rfl rfl rfl rfl rfl rfl rfl ⟨rfl,rfl,rfl,rfl,rfl⟩ rfl rfl rfl rfl rfl (by kernel_rfl) func5 AuditQuiets.closed
  (of_decide_eq_true (by kernel_rfl)) (by unfold Func.isWrapper;first|(rw[if_pos (by decide +kernel)];kernel_rfl)|(rw[if_neg (by decide +kernel)];exact⟨rfl,rfl⟩))
  (λos started H enc _=>AuditQuiets.lifted os started H enc)
end Go.Proofs.YtbkejjmjopgpoaaGreat
