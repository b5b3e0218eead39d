import Derived.Test.YtbodiiomcfgokaaGreatB11
set_option linter.all false
namespace Go.Proofs.YtbodiiomcfgokaaGreat
open Go.Proofs.Tryz Go.aK Go.RowKit
def jY(c:ae)(f:Fl)(aG:List Int):oc:=⟨c,.sh,.sh,.sh,none,0,0,f,aG,.nil,[],.nil,[],0,.nil,[],.nil,[]⟩
theorem UM(c:ae):[[pI c.kind,pB c.goal,pS c.id,.list 6 .sh (c.attr.map Test.pv),.list 6 .sh (c.value.map Test.pv),pB c.acc,.list 7 .sh (c.conds.map ae.pv)]]=[c].map ae.pv:=by rw[List.map_cons,List.map_nil,ae.cP]
theorem aew{es:List af}{ms:dL}{l:List Int}{j:Int}{d:ae}(h:gB es ms l)(hm:eO ms j d):0<=j:=by
 obtain⟨y,hy,_⟩:=hm
 obtain⟨h1,h2⟩:=(aM ax h.inv.pJ).1 hy
 have:=(h.inv.num y h1).1
 have h2:y.1=j:=h2
 omega
section
variable {n:Nat} {x:NC} {es:List af} {ids:pt}
theorem aca{ms:dL}{l:List Int}(hU:gB es ms l)(hl:l.length<=800000)(c:ae)(aO:vC c)(hs:aR c<=100)(fa fv fc:Fl){L:List aY}{μ:Mem}(hO:Ow (an n x es ms ids::L) μ){K:Kq}
  (hk:∀xb f dd aG,gB es dd (aG++l)->aG.length=aR c->lY dd aG 0 c->jM ms dd->(∀j∈aG,-1<=j)->∀μ',Ow (an n x es dd ids::Pt xb 156 (jY c f aG).pv::L) μ'->K (pP xb 0) μ'):
  aa prog 104 [pP n 0,.agg [pI c.kind,pB c.goal,pS c.id,.list 6 fa (c.attr.map Test.pv),.list 6 fv (c.value.map Test.pv),pB c.acc,.list 7 fc (c.conds.map ae.pv)]] μ K:=by
 obtain⟨iV,Uk,OP⟩:=(oO _).1 aO
 have MN:=bM c
 have hcp:=Xc .sh .sh .sh c (by omega) iV
 rw[ae.cP]at hcp
 have ow:dI [c] 0 0=iN c 0 0:=by simp[dI]
 refine BE.c λb2 rU=>hcp.call ⟨_,_,_,_,_,_,_,_,_,_,rfl,λwE ajq b5 ZS=>?_⟩
 have O1:=hO.new 39 [pP n 0] rU
 have O2:=O1.new 156 (jY c .nil []).pv ajq
 have O3:=O2.new 131 [.raw (.pointer none)] ZS
 refine O3.st 0 rfl (by simp) λu h=>?_
 have h0:Ow (Pt wE 156 (jY c .nil []).pv::an n x es ms ids::Pt b5 131 [pP wE 0]::Pt b2 39 [pP n 0]::L) u:=Ow.ord [1,2,0] h
 have h1:Ow (an n x es ms ids::Pt wE 156 (jY c .nil []).pv::eH .nil 0 1::Pt b5 131 [pP wE 0]::Pt b2 39 [pP n 0]::L) u:=(Ow.swap h0).tail λ_ h=>h.tail λ_ h=>h.nil (.inl rfl)
 rw[UM]
 refine(af6 .nr [c]).call ⟨_,_,_,rfl,?_⟩
 have abw:((dI [c] 0 0).map λx=>[pI (x.1:Nat),.agg x.2.2.pv]).length=aR c:=by rw[List.length_map,ow,qa]
 refine bk.own (iT.ofP (WS [c] (by simp only[aj];omega))) (akm h1)
  (λk u=>∃f dd aG,(aG.length=k/\(gB es dd (aG++l)/\∀j∈aG,-1<=j)/\jM ms dd/\(∀(q:Nat) (y:Nat×Nat×ae),(iN c 0 0)[q]?=some y->∀hq:q<aG.length,y.2.2.kind=3\/eO dd aG[q] y.2.2))/\Ow (an n x es dd ids::Pt wE 156 (jY c f aG).pv::eH f aG.length 1::Pt b5 131 [pP wE 0]::Pt b2 39 [pP n 0]::L) u)
  (λ_ _=>False) (λk=>fJ.ex λ_=>fJ.ex λ_=>fJ.ex λ_=>fJ.and (fJ.own _)) (λ_ _ _ _ h=>h.elim) (λμ' h'=>⟨.nil,ms,[],⟨rfl,⟨hU,by simp⟩,jM.refl ms,λq y _ hq=>by simp at hq⟩,h'.drop⟩) ?_ ?_ (λ_ _ h=>h.elim)
 ·rintro k hk u R ⟨f,dd,aG,⟨nR,⟨Yc,vY⟩,hK,hm⟩,uo⟩ bU _
  have bW:k<(iN c 0 0).length:=by rw[<- ow];simpa using hk
  have sN:k<aR c:=by rw[<- qa c 0 0];exact bW
  have e0:((dI [c] 0 0).map λx=>[pI (x.1:Nat),.agg x.2.2.pv])[k]=[pI ((iN c 0 0)[k].1:Nat),.agg (iN c 0 0)[k].2.2.pv]:=by
   rw[List.getElem_map];simp only[ow]
  rw[e0,ae.cP]
  have rJ:(iN c 0 0)[k]?=some (iN c 0 0)[k]:=List.getElem?_eq_getElem bW
  generalize hy:(iN c 0 0)[k]=y at rJ
  have OF:cr y.2.2:=Dg c 0 0 y iV (by rw[<- hy];exact List.getElem_mem bW)
  have sI:∀{f:Fl} {m2:dL} {j:Int} {u:Mem} {Kx:Fl->Mem->Prop},Ow (an n x es m2 ids::Pt wE 156 (jY c f aG).pv::eH f aG.length 1::Pt b5 131 [pP wE 0]::Pt b2 39 [pP n 0]::L) u->(∀f' u',Ow (eH f' (aG.length+1) 1::an n x es m2 ids::Pt wE 156 (jY c f aG).pv::Pt b5 131 [pP wE 0]::Pt b2 39 [pP n 0]::L) u'->Kx f' u')->aV false 1 8 f (aG.map gz) [[pI j]] u Kx:=λ{f m2 j u Kx} h hK=>by
   have h':Ow (eH f aG.length 1::an n x es m2 ids::Pt wE 156 (jY c f aG).pv::Pt b5 131 [pP wE 0]::Pt b2 39 [pP n 0]::L) u:=Ow.ord [2] h
   exact h'.app (by simp) (by simp;omega) (by simp;omega) λf' u' h2=>hK f' u' h2
  have Zm:∀{f f':Fl} {m2:dL} {j:Int} {u:Mem} {Kx:Mem->Prop},Ow (eH f' (aG.length+1) 1::an n x es m2 ids::Pt wE 156 (jY c f aG).pv::Pt b5 131 [pP wE 0]::Pt b2 39 [pP n 0]::L) u->(∀u',Ow (an n x es m2 ids::Pt wE 156 (jY c f' (aG++[j])).pv::eH f' (aG++[j]).length 1::Pt b5 131 [pP wE 0]::Pt b2 39 [pP n 0]::L) u'->Kx u')->stM wE 8 [.list 1 f' (aG.map gz++[[pI j]])] u Kx:=λ{f f' m2 j u Kx} h hK=>by
   refine h.st 2 rfl (by simp) λu' h2=>hK u' ?_
   have e:dN (jY c f aG).pv 8 [.list 1 f' (aG.map gz++[[pI j]])]=(jY c f' (aG++[j])).pv:=by
    simp only[jY,oc.pv,List.map_append];rfl
   rw[e]at h2
   rw[show(aG++[j]).length=aG.length+1 from by simp]
   exact Ow.ord [1,1,0] h2
  have fin:∀{f':Fl} {m2:dL} {j:Int} {u:Mem},(0<=j/\gB es m2 (j::(aG++l)))\/(j= -1/\gB es m2 (aG++l))->jM dd m2->(y.2.2.kind=3\/eO m2 j y.2.2)->Ow (an n x es m2 ids::Pt wE 156 (jY c f' (aG++[j])).pv::eH f' (aG++[j]).length 1::Pt b5 131 [pP wE 0]::Pt b2 39 [pP n 0]::L) u->R none u:=λ{f' m2 j u} hu fH hmj h=>by
   refine bU _ ⟨f',m2,aG++[j],⟨by simp[nR],⟨?_,λj' Kl=>?_⟩,hK.trans fH,λq z hz hq=>?_⟩,h⟩
   ·rcases hu with⟨_,hu⟩|⟨rfl,hu⟩
    ·exact hu.perm (by simpa using(List.perm_middle (a:=j) (l₁:=aG) (l₂:=l)).symm)
    ·refine hu.as λk hk=>?_
     rw[List.count_append,List.count_append,List.count_append,List.count_cons,if_neg (by simp;omega)];simp
   ·rcases List.mem_append.1 Kl with Kl|Kl
    ·exact vY j' Kl
    ·simp only[List.mem_singleton]at Kl
     subst Kl
     rcases hu with⟨h0,_⟩|⟨rfl,_⟩<;>omega
   ·by_cases hql:q<aG.length
    ·rw[List.getElem_append_left hql]
     exact(hm q z hz hql).imp id (fH _ _)
    ·have hqk:q=aG.length:=by simp at hq;omega
     subst hqk
     rw[nR,rJ]at hz
     cases hz
     rw[List.getElem_append_right (by omega)]
     simpa using hmj
  refine⟨_,_,_,_,_,_,_,_,_,_,_,rfl,ab.mk (λh3=>?_) (λh3=>?_)⟩
  ·have Z_:y.2.2.kind=3:=by simpa using h3
   have lf:∀{f' u'} (_:Ow (eH f' (aG.length+1) 1::an n x es dd ids::Pt wE 156 (jY c f aG).pv::Pt b5 131 [pP wE 0]::Pt b2 39 [pP n 0]::L) u'),stM wE 8 [.list 1 f' (aG.map gz++[[pI (-1)]])] u' λWD=>R none WD:=λh=>Zm h λWD h'=>fin (.inr ⟨rfl,Yc⟩) (jM.refl _) (.inl Z_) h'
   refine⟨_,uo.rd 3 rfl (by simp),_,_,uo.rd 1 rfl (by simp[jY]),⟨_,uo.rd 3 rfl (by simp),⟨sI uo λf' u' h=>⟨lf h,trivial⟩,trivial⟩,trivial⟩,⟨sI uo λf' u' h=>⟨_,h.rd 3 rfl (by simp),lf h,trivial⟩,trivial⟩,trivial⟩
  ·have fu:∀{u:Mem} {Kx:Kq},Ow (an n x es dd ids::Pt wE 156 (jY c f aG).pv::eH f aG.length 1::Pt b5 131 [pP wE 0]::Pt b2 39 [pP n 0]::L) u->(∀j m2,gB es m2 (j::(aG++l))->jM dd m2->eO m2 j y.2.2->∀u',Ow (an n x es m2 ids::Pt wE 156 (jY c f aG).pv::eH f aG.length 1::Pt b5 131 [pP wE 0]::Pt b2 39 [pP n 0]::L) u'->Kx (pI j) u')->aa prog 166 [pP x.al 0,.agg [pI y.2.2.kind,pB y.2.2.goal,pS y.2.2.id,.list 6 .sh (y.2.2.attr.map Test.pv),.list 6 .sh (y.2.2.value.map Test.pv),pB y.2.2.acc,.list 7 .sh (y.2.2.conds.map ae.pv)]] u Kx:=λh hK=>acb Yc (by rw[List.length_append];omega) y.2.2 OF h λj m2 a1 a2 a3 u' h'=>hK j m2 a1 a3 a2 u' h'
   have lf:∀{f' u' j m2} (_:gB es m2 (j::(aG++l))) (_:jM dd m2) (_:eO m2 j y.2.2) (_:Ow (eH f' (aG.length+1) 1::an n x es m2 ids::Pt wE 156 (jY c f aG).pv::Pt b5 131 [pP wE 0]::Pt b2 39 [pP n 0]::L) u'),stM wE 8 [.list 1 f' (aG.map gz++[[pI j]])] u' λWD=>R none WD:=λa1 a2 a3 h=>Zm h λWD h'=>fin (.inl ⟨aew a1 a3,a1⟩) a2 (.inr a3) h'
   refine⟨_,uo.rd 4 rfl (by simp),_,aE (an.qz (x:=x) (es:=es) (ms:=dd) (ids:=ids) uo (by simp)) (by simp),?_,?_,?_,trivial⟩
   ·refine⟨_,uo.rd 3 rfl (by simp),⟨_,uo.rd 3 rfl (by simp),⟨_,_,uo.rd 1 rfl (by simp[jY]),fu uo λj m2 a1 a2 a3 u' h=>⟨_,rfl,⟨sI h λf' u2 h2=>⟨lf a1 a2 a3 h2,trivial⟩,trivial⟩,trivial⟩,trivial⟩,fu uo λj m2 a1 a2 a3 u' h=>⟨_,rfl,_,_,h.rd 1 rfl (by simp[jY]),⟨sI h λf' u2 h2=>⟨lf a1 a2 a3 h2,trivial⟩,trivial⟩,trivial⟩,trivial⟩,fu uo λj m2 a1 a2 a3 u' h=>⟨_,rfl,_,h.rd 3 rfl (by simp),_,_,h.rd 1 rfl (by simp[jY]),⟨sI h λf' u2 h2=>⟨lf a1 a2 a3 h2,trivial⟩,trivial⟩,trivial⟩,trivial⟩
   ·refine⟨_,uo.rd 3 rfl (by simp),⟨_,_,uo.rd 1 rfl (by simp[jY]),fu uo λj m2 a1 a2 a3 u' h=>⟨_,rfl,⟨_,h.rd 3 rfl (by simp),⟨sI h λf' u2 h2=>⟨lf a1 a2 a3 h2,trivial⟩,trivial⟩,trivial⟩,⟨sI h λf' u2 h2=>⟨_,h2.rd 3 rfl (by simp),lf a1 a2 a3 h2,trivial⟩,trivial⟩,trivial⟩,trivial⟩,fu uo λj m2 a1 a2 a3 u' h=>⟨_,rfl,_,_,h.rd 1 rfl (by simp[jY]),⟨_,h.rd 3 rfl (by simp),⟨sI h λf' u2 h2=>⟨lf a1 a2 a3 h2,trivial⟩,trivial⟩,trivial⟩,⟨sI h λf' u2 h2=>⟨_,h2.rd 3 rfl (by simp),lf a1 a2 a3 h2,trivial⟩,trivial⟩,trivial⟩,trivial⟩
   ·exact fu uo λj m2 a1 a2 a3 u' h=>⟨_,rfl,_,h.rd 3 rfl (by simp),_,_,h.rd 1 rfl (by simp[jY]),⟨_,h.rd 3 rfl (by simp),⟨sI h λf' u2 h2=>⟨lf a1 a2 a3 h2,trivial⟩,trivial⟩,trivial⟩,⟨sI h λf' u2 h2=>⟨_,h2.rd 3 rfl (by simp),lf a1 a2 a3 h2,trivial⟩,trivial⟩,trivial⟩
 ·rintro u ⟨f,dd,aG,⟨nR,⟨Yc,vY⟩,hK,hm⟩,uo⟩
  rw[abw]at nR
  dsimp only[PK]
  refine⟨_,uo.rd 3 rfl (by simp),hk wE f dd aG Yc nR (Yk c 0 0 aO (λq y hy=>?_) λq y hy h3 h=>by omega) hK vY u ?_⟩
  ·have hq:q<(iN c 0 0).length:=(List.getElem?_eq_some_iff.1 hy).1
   rw[qa]at hq
   refine⟨by omega,?_⟩
   simp only[Nat.zero_add]
   exact hm q y hy (by omega)
  ·exact uo.tail λ_ h=>h.tail λ_ h=>h.drop.drop.drop
theorem Pf{ms:dL}{l:List Int}{xb:Nat}(d:oc)(hU:gB es ms (d.aG++l))(hd:d.aG.length<=1000){L:List aY}{μ:Mem}(hO:Ow (an n x es ms ids::Pt xb 156 d.pv::L) μ){K:Kq}
  (hk:∀dd,gB es dd l->(∀j d,j∈l->eO ms j d->eO dd j d)->∀μ',Ow (an n x es dd ids::Pt xb 156 d.pv::L) μ'->K (.aD []) μ'):aa prog 106 [pP n 0,pP xb 0] μ K:=by
 refine Ao.c ⟨_,_,hO.rd 1 rfl (by simp),?_⟩
 refine ak.each (n:=d.aG.length) (by omega) (λk u=>∃dd,(gB es dd (d.aG.drop k++l)/\(∀j d,j∈l->eO ms j d->eO dd j d))/\Ow (an n x es dd ids::Pt xb 156 d.pv::L) u) ⟨ms,⟨by simpa using hU,λj d _ h=>h⟩,hO⟩ ?_ ?_
 ·rintro k u next bW ⟨dd,⟨Yc,hK⟩,h⟩ ar
  refine ab.t (by simpa using bW) ⟨by omega,_,vK bW,_,rfl,?_⟩
  refine⟨_,aE (an.qz (x:=x) (es:=es) (ms:=dd) (ids:=ids) h (by simp)) (by simp),Yy Yc (l':=d.aG.drop (k+1)++l) (λj=>?_) h λb m2 hU2 hK2 u2 h2=>⟨_,rfl,ar _ ⟨m2,⟨hU2,λj d hj hm=>hK2 j d (by simp[hj]) (hK j d hj hm)⟩,h2⟩⟩⟩
  rw[List.drop_eq_getElem_cons bW,List.count_append,List.count_append,List.count_cons]
  by_cases e:j=d.aG[k]
  ·rw[if_pos (by simp[e]),if_pos e];omega
  ·rw[if_neg (by simpa using Ne.symm e),if_neg e];omega
 ·rintro u next ⟨dd,⟨Yc,hK⟩,h⟩
  refine ab.f (by simp) ?_
  rw[List.drop_length]at Yc
  exact hk dd (by simpa using Yc) hK u h
end
namespace RN
abbrev El:={n:Int // -1<=n/\n<1000000}
@[reducible] def pv(x:El):List PV:=[pI x.1]
@[reducible] def arg(x:El):PV:=pI x.1
def key(x:El):Int:=x.1
def ck(a b:Int):Int:=a-b
theorem hc:oF ck:=⟨λa b=>by unfold ck;omega,λa b=>by unfold ck;omega,λa b d h k=>by unfold ck at *;omega⟩
theorem wC(a b:El):Pure prog 332 [arg a,arg b] (pI (ck (key a) (key b))):=by
 refine ao.of (r_.c ?_)
 obtain⟨a,ha⟩:=a
 obtain⟨b,hb⟩:=b
 show _=pI (a-b)
 simp only[wk,cH]
 rw[az (by omega) (by omega)]
@[reducible] noncomputable def D:SD:=⟨prog,256,179,1,8,332,λQ=>∃x,Q [pI x],λr=>r.headD .bd,[pI (0)]⟩
abbrev At(b:Nat)(l:List El):aY:=cT 256 179 1 b (l.map pv)
theorem ot:Ps D pv arg key ck:=⟨λx Q h=>⟨_,h⟩,λ_=>rfl,λ_=>rfl,λ_=>rfl,λ_=>rfl,hc,wC,λv=>by kernel_rfl,rfl,by decide,by decide⟩
theorem dP{x:El}{a0:Option Addr}{u0:Mem}{K:Kq}(h:D.find a0 u0 K (arg x)):aa prog 158 [pA a0,arg x] u0 K:=VC [] [(2,⟨[(6,.one (.raw (.int .i64))),(7,.one (.raw (.int .i64)))],[]⟩)] [] [] [] [] [] func158 h
theorem Hu{x:El}{a0:Option Addr}{u0:Mem}{K:Kq}(h:D.place a0 u0 K (arg x) 158):aa prog 220 [pA a0,arg x] u0 K:=VC [] [] [] [] [] [] [] func220 h
def tc:=ot.tc dP Hu
theorem iZ{a0:Option Addr}{u0:Mem}{K:Kq}(h:D.own a0 u0 K):aa prog 159 [pA a0] u0 K:=VC [] [] [] [] [] [] [] func159 h
theorem nH{x:El}{a0:Option Addr}{u0:Mem}{K:Kq}(h:D.put a0 u0 K (pv x) (arg x) 158 159):aa prog 97 [pA a0,arg x] u0 K:=VC [] [(9,⟨[(7,.one (.raw (.int .i64)))],[]⟩)] [] [] [] [] [23,32,43,48,57] func97 h
def gW:=ot.gW dP iZ nH
theorem nI{fl:Fl}{l:Lq}{u0:Mem}{K:Kq}(h:D.new u0 K 97 l):aa prog 95 [.list 1 fl l] u0 K:=VC [] [(3,⟨[(10,.one (.raw (.int .i64)))],[]⟩)] [] [] [] [] [] func95 h
def iy:=ot.iy gW nI
end RN
def qT{α:Type}(f:α->α->Bool):List α->List α->Bool
 |[],[]=>true
 |a::l,b::r=>f a b&&qT f l r
 |_,_=>false
theorem vN{α:Type}{f:α->α->Bool}(h:∀a b,f a b=true↔a=b):∀a b:List α,qT f a b=true↔a=b
 |[],[]=>by simp[qT]
 |[],b::r=>by simp[qT]
 |a::l,[]=>by simp[qT]
 |a::l,b::r=>by simp only[qT,Bool.and_eq_true,h,vN h l r,List.cons.injEq]
def WN(a b:Sym):Bool:=gf a b
theorem xD(a b:Sym):WN a b=true↔a=b:=cF
def G_(a b:Test):Bool:=(a.rel == b.rel)&&(aJ a.var b.var&&(WN a.sym b.sym&&qT WN a.list b.list))
theorem LY(a b:Test):G_ a b=true↔a=b:=by
 unfold G_
 obtain⟨r,v,s,l⟩:=a
 obtain⟨r',v',s',l'⟩:=b
 simp only[Bool.and_eq_true,beq_iff_eq,bI,xD,vN xD,Test.mk.injEq]
mutual
def eqC:ae->ae->Bool
 | .mk k g i a v ac cs,d=>(k == d.kind)&&((g == d.goal)&&(aJ i d.id&&(qT G_ a d.attr&&(qT G_ v d.value&&((ac == d.acc)&&eqL cs d.conds)))))
def eqL:List ae->List ae->Bool
 |[],ds=>ds.isEmpty
 |c::cs,ds=>match ds with|[]=>false|d::ds=>eqC c d&&eqL cs ds
end
mutual
theorem Ib:∀(c d:ae),eqC c d=true↔c=d
 | .mk k g i a v ac cs,.mk k' g' i' a' v' ac' Wr=>by
   simp only[eqC,ae.kind,ae.goal,ae.id,ae.attr,ae.value,ae.acc,ae.conds,Bool.and_eq_true,beq_iff_eq,bI,vN LY,OW cs,ae.mk.injEq]
theorem OW:∀(cs ds:List ae),eqL cs ds=true↔cs=ds
 |[],ds=>by simp only[eqL,List.isEmpty_iff];exact eq_comm
 |c::cs,[]=>by simp[eqL]
 |c::cs,d::ds=>by simp only[eqL,Bool.and_eq_true,Ib c,OW cs,List.cons.injEq]
end
instance decCond:DecidableEq ae:=λc d=>if h:eqC c d=true then isTrue ((Ib c d).1 h)else isFalse λe=>h ((Ib c d).2 e)
abbrev Path:=List ae
structure Tree where
 D:List Path
 B:Path->Nat
 M:Path->List Int
 E:Path->Nat
 K:Path->List ae
 S:Path->Option Addr×Nat
def Ja:ae:=.mk 0 false ⟨#[]⟩ [] [] false []
def JY(p:Path):ae:=p.getLast?.getD Ja
@[simp] theorem qV(p:Path)(c:ae):JY (p++[c])=c:=by simp[JY]
structure Fls where
 a:Fl
 v:Fl
 c:Fl
 m:Fl
 t:Fl
 k:Fl
 f:Fl
 q:Fl
@[reducible] def gK(T:Tree)(tk:Path->List cf)(ct:Path->List Nat)(fr:Path->List cf)(mn:Path->List Nat)(p:Path)(F:Fls):oc:=⟨JY p,F.a,F.v,F.c,(T.S p).1,(T.K p).length,(T.S p).2,F.m,T.M p,F.t,tk p,F.k,ct p,(T.E p:Nat),F.f,fr p,F.q,mn p⟩
@[reducible] def jk(T:Tree)(p:Path):Lq:=(T.K p).map λc=>[pP (T.B (p++[c])) 0]
@[reducible] def IT(T:Tree)(p:Path):aY:=iW 131 1 (.raw (.slice (T.S p).1 (T.K p).length (T.S p).2)) (jk T p)
def fI(T:Tree)(tk:Path->List cf)(ct:Path->List Nat)(fr:Path->List cf)(mn:Path->List Nat)(p:Path):aY:=λμ=>∃F,Ow [Pt (T.B p) 156 (gK T tk ct fr mn p F).pv,IT T p] μ
def cb(T:Tree)(tk:Path->List cf)(ct:Path->List Nat)(fr:Path->List cf)(mn:Path->List Nat):aY:=Ow (T.D.map (fI T tk ct fr mn))
section
variable {T:Tree} {tk:Path->List cf} {ct:Path->List Nat} {fr:Path->List cf} {mn:Path->List Nat} {L:List aY} {μ:Mem}
theorem cb.out{p:Path}(hp:p∈T.D)(h:Ow (cb T tk ct fr mn::L) μ):∃A B F,T.D=A++p::B/\Ow (Pt (T.B p) 156 (gK T tk ct fr mn p F).pv::IT T p::Ow ((A++B).map (fI T tk ct fr mn))::L) μ:=by
 obtain⟨A,B,e⟩:=List.append_of_mem hp
 unfold cb at h
 rw[e,List.map_append,List.map_cons]at h
 have h1:Ow (fI T tk ct fr mn p::Ow ((A++B).map (fI T tk ct fr mn))::L) μ:=by
  have h2:=h.nest
  rw[List.append_assoc]at h2
  have h3:Ow (fI T tk ct fr mn p::(A.map (fI T tk ct fr mn)++(B.map (fI T tk ct fr mn)++L))) μ:=Ow.AN (L1:=A.map (fI T tk ct fr mn)) h2
  refine h3.tail λν hν=>Ow.pack ?_
  rw[List.map_append,List.append_assoc];exact hν
 obtain⟨F,h2⟩:=Ow.ex h1
 exact⟨A,B,F,e,h2.nest (L1:=[Pt (T.B p) 156 (gK T tk ct fr mn p F).pv,IT T p])⟩
theorem cb.in_{p:Path}{A B:List Path}(e:T.D=A++p::B){F:Fls}(h:Ow (Pt (T.B p) 156 (gK T tk ct fr mn p F).pv::IT T p::Ow ((A++B).map (fI T tk ct fr mn))::L) μ):Ow (cb T tk ct fr mn::L) μ:=by
 have h1:Ow (Ow [Pt (T.B p) 156 (gK T tk ct fr mn p F).pv,IT T p]::Ow ((A++B).map (fI T tk ct fr mn))::L) μ:=Ow.pack (L1:=[Pt (T.B p) 156 (gK T tk ct fr mn p F).pv,IT T p]) h
 have h2:Ow (fI T tk ct fr mn p::Ow ((A++B).map (fI T tk ct fr mn))::L) μ:=h1.imp λν hν=>⟨F,hν⟩
 unfold cb
 rw[e,List.map_append,List.map_cons]
 refine Ow.pack ?_
 rw[List.append_assoc]
 refine Ow.Za (L1:=A.map (fI T tk ct fr mn)) (L:=B.map (fI T tk ct fr mn)++L) (h2.tail λν hν=>?_)
 have h3:=hν.nest
 rw[List.map_append,List.append_assoc]at h3
 exact h3
theorem cb.congr{xq:Path->List cf}{Bh:Path->List Nat}{qm:Path->List cf}{pL:Path->List Nat}{A:List Path}(h:∀q∈A,xq q=tk q/\Bh q=ct q/\qm q=fr q/\pL q=mn q):A.map (fI T xq Bh qm pL)=A.map (fI T tk ct fr mn):=
 List.map_congr_left λq hq=>by
  obtain⟨h1,h2,h3,h4⟩:=h q hq
  unfold fI gK
  rw[h1,h2,h3,h4]
theorem cb.set{xq:Path->List cf}{Bh:Path->List Nat}{qm:Path->List cf}{pL:Path->List Nat}{p:Path}{A B:List Path}(hn:T.D.Nodup)(e:T.D=A++p::B){F:Fls}(hq:∀q∈T.D,q≠p->xq q=tk q/\Bh q=ct q/\qm q=fr q/\pL q=mn q)
  (h:Ow (Pt (T.B p) 156 (gK T xq Bh qm pL p F).pv::IT T p::Ow ((A++B).map (fI T tk ct fr mn))::L) μ):Ow (cb T xq Bh qm pL::L) μ:=by
 refine cb.in_ e (F:=F) ?_
 rw[cb.congr (tk:=tk) (ct:=ct) (fr:=fr) (mn:=mn)]
 ·exact h
 ·intro q hm
  refine hq q (by rw[e];rcases List.mem_append.1 hm with h|h<;>simp[h]) λeq=>?_
  subst eq
  rw[e]at hn
  have:=List.nodup_append.1 hn
  rcases List.mem_append.1 hm with h|h
  ·exact this.2.2 q h q (by simp) rfl
  ·exact(List.nodup_cons.1 this.2.1).1 h
theorem cb.same{xq:Path->List cf}{Bh:Path->List Nat}{qm:Path->List cf}{pL:Path->List Nat}(hq:∀q∈T.D,xq q=tk q/\Bh q=ct q/\qm q=fr q/\pL q=mn q)(h:Ow (cb T tk ct fr mn::L) μ):Ow (cb T xq Bh qm pL::L) μ:=by
 unfold cb at h |-
 rw[cb.congr (tk:=tk) (ct:=ct) (fr:=fr) (mn:=mn) hq];exact h
theorem cb.rd{p:Path}(hp:p∈T.D)(h:Ow (cb T tk ct fr mn::L) μ):∃F:Fls,μ (T.B p)=some (.cells 156 (gK T tk ct fr mn p F).pv):=by
 obtain⟨A,B,F,e,h1⟩:=cb.out hp h
 exact⟨F,h1.get 0 rfl⟩
theorem cb.Zn{p:Path}(hp:p∈T.D)(h:Ow (cb T tk ct fr mn::L) μ){i:Nat}(hi:i<(T.K p).length):∃b,(T.S p).1=some ⟨b,0,none⟩/\aB μ b (0+i*1) 1=some [pP (T.B (p++[(T.K p)[i]])) 0]:=by
 obtain⟨A,B,F,e,h1⟩:=cb.out hp h
 have hlen:i<(jk T p).length:=by simpa using hi
 obtain⟨b,ha,fB,_⟩:=iW.at_ 1 h1 rfl (λr hr=>by obtain⟨c,_,rfl⟩:=List.mem_map.1 hr;rfl) (j:=i) hlen
 refine⟨b,ha,?_⟩
 have:=fB 0 1 (by omega)
 simp only[List.getElem_map]at this
 simpa using this
end
structure oB(T:Tree):Prop where
 nodup:T.D.Nodup
 root:[]∈T.D
 kids:∀p∈T.D,∀c,c∈T.K p↔p++[c]∈T.D
 Bt:∀p∈T.D,(T.K p).Nodup
 up:∀p c,p++[c]∈T.D->p∈T.D
 len:∀p∈T.D,p.length<=16
 okk:∀p∈T.D,ud p
 size:∀p∈T.D,aj p<=100
 ml:∀p c,p++[c]∈T.D->(T.M (p++[c])).length=aR c
 m0:T.M []=[]
 Bg:T.D.length<=5000
 mge:∀p∈T.D,∀j∈T.M p,-1<=j
theorem qD{p:Path}(h:p≠[]):∃q c,p=q++[c]:=⟨p.dropLast,p.getLast h,(List.dropLast_concat_getLast h).symm⟩
theorem oB.pre{T:Tree}(h:oB T)(r s:Path):s++r∈T.D->s∈T.D:=by
 have key:∀(n:Nat) (r s:Path),r.length<=n->s++r∈T.D->s∈T.D:=by
  intro n
  induction n with
  |zero=>
   intro r s hr hs
   have:r=[]:=List.eq_nil_of_length_eq_zero (by omega)
   subst this;simpa using hs
  |succ n ih=>
   intro r s hr hs
   by_cases e:r=[]
   ·subst e;simpa using hs
   ·obtain⟨q,c,rfl⟩:=qD e
    rw[<- List.append_assoc]at hs
    exact ih q s (by simp at hr;omega) (h.up _ _ hs)
 exact key r.length r s (Nat.le_refl _)
theorem oB.below{T:Tree}(h:oB T){p q:Path}(hp:p∈T.D)(hq:q∈T.D):(p <+: q/\q≠p)↔∃c∈T.K p,(p++[c]) <+: q:=by
 constructor
 ·rintro⟨⟨r,rfl⟩,aT⟩
  cases r with
  |nil=>simp at aT
  |cons c r=>
   refine⟨c,(h.kids p hp c).2 ?_,⟨r,by simp⟩⟩
   exact h.pre r (p++[c]) (by simpa using hq)
 ·rintro⟨c,hc,r,rfl⟩
  exact⟨⟨c::r,by simp⟩,λe=>by have:=congrArg List.length e;simp at this⟩
theorem oB.xR{T:Tree}(h:oB T){p q:Path}(hq:q∈T.D)(hp:p <+: q):p∈T.D:=by
 obtain⟨r,rfl⟩:=hp
 exact h.pre r p hq
theorem qb{α:Type}[DecidableEq α]{a b:List α}(ha:a.Nodup)(hb:b.Nodup)(h:∀x,x∈a↔x∈b):a.length=b.length:=((List.perm_ext_iff_of_nodup ha hb).2 h).length_eq
def under(l:List ae)(p q:Path):Bool:=l.any λc=>decide ((p++[c]) <+: q)
def mix{α:Type}(l:List ae)(p:Path)(f g:Path->α):Path->α:=λq=>if under l p q then f q else g q
def aQ{α:Type}(f:Path->α)(p:Path)(v:α):Path->α:=λq=>if q=p then v else f q
@[simp] theorem cW{α:Type}(f:Path->α)(p:Path)(v:α):aQ f p v p=v:=by simp[aQ]
theorem aX{α:Type}{f:Path->α}{p q:Path}{v:α}(h:q≠p):aQ f p v q=f q:=by simp[aQ,h]
theorem iD{l:List ae}{p q:Path}:under l p q=true↔∃c∈l,(p++[c]) <+: q:=by
 unfold under;rw[List.any_eq_true];simp
theorem oB.HE{T:Tree}(h:oB T){p:Path}(hp:p∈T.D){i:Nat}(hi:i<(T.K p).length):p++[(T.K p)[i]]∈T.D:=(h.kids p hp _).1 (List.getElem_mem hi)
theorem k_{α:Type}[DecidableEq α]:∀{a b:List α},a.Nodup->(∀x∈a,x∈b)->a.length<=b.length:=by
 intro a
 induction a with
 |nil=>intro b _ _;exact Nat.zero_le _
 |cons x a ih=>
  intro b hn hs
  obtain⟨h1,h2⟩:=List.nodup_cons.1 hn
  have hx:=hs x (by simp)
  have:=ih (b:=b.erase x) h2 λy hy=>(List.mem_erase_of_ne (by rintro rfl;exact h1 hy)).2 (hs y (by simp[hy]))
  rw[List.length_erase_of_mem hx]at this
  have hp:0<b.length:=List.length_pos_of_mem hx
  simp only[List.length_cons];omega
theorem oB.kl{T:Tree}(h:oB T){p:Path}(hp:p∈T.D):(T.K p).length<=T.D.length:=by
 have Zy:((T.K p).map λc=>p++[c]).Nodup:=List.Pairwise.map _ (λa b uk e=>uk (by simpa using e)) (h.Bt p hp)
 have h1:=k_ Zy (b:=T.D) λx hx=>by
  obtain⟨c,hc,rfl⟩:=List.mem_map.1 hx
  exact(h.kids p hp c).1 hc
 simpa using h1
theorem Sz{p q:Path}{c d:ae}(h1:(p++[c]) <+: q)(h2:(p++[d]) <+: q):c=d:=by
 have e2:p++[c]=p++[d]:=by
  rcases List.prefix_or_prefix_of_prefix h1 h2 with h3|h3
  ·exact h3.eq_of_length (by simp)
  ·exact(h3.eq_of_length (by simp)).symm
 simpa using e2
theorem oB.step{T:Tree}(h:oB T){p:Path}(hp:p∈T.D){i:Nat}(hi:i<(T.K p).length){q:Path}(hq:q∈T.D):
  (q=p++[(T.K p)[i]]/\under ((T.K p).take i) p q=false/\under (T.K (p++[(T.K p)[i]])) (p++[(T.K p)[i]]) q=false/\under ((T.K p).take (i+1)) p q=true)\/
  (q≠p++[(T.K p)[i]]/\under (T.K (p++[(T.K p)[i]])) (p++[(T.K p)[i]]) q=true/\under ((T.K p).take i) p q=false/\under ((T.K p).take (i+1)) p q=true)\/
  (q≠p++[(T.K p)[i]]/\under (T.K (p++[(T.K p)[i]])) (p++[(T.K p)[i]]) q=false/\under ((T.K p).take (i+1)) p q=under ((T.K p).take i) p q):=by
 have po:=h.HE hp hi
 have aT:∀q,(p++[(T.K p)[i]]) <+: q->under ((T.K p).take i) p q=false:=λq hq=>by
  cases hu:under ((T.K p).take i) p q with
  |false=>rfl
  |true=>
   obtain⟨c,hc,h2⟩:=iD.1 hu
   have e:=Sz h2 hq
   subst e
   obtain⟨j,hj,e⟩:=List.mem_iff_getElem.1 hc
   rw[List.getElem_take]at e
   have hj2:j<i:=by rw[List.length_take]at hj;omega
   have:=(List.getElem_inj (h.Bt p hp) (h₀:=by omega) (h₁:=hi)).1 e
   omega
 have iB:under ((T.K p).take (i+1)) p q=(under ((T.K p).take i) p q||decide ((p++[(T.K p)[i]]) <+: q)):=by
  unfold under
  rw[List.take_add_one,List.getElem?_eq_getElem hi,List.any_append];simp
 by_cases e:q=p++[(T.K p)[i]]
 ·left
  have cZ:(p++[(T.K p)[i]]) <+: q:=by rw[e];exact List.prefix_refl _
  refine⟨e,aT q cZ,?_,by rw[iB];simp[cZ]⟩
  cases hu:under (T.K (p++[(T.K p)[i]])) (p++[(T.K p)[i]]) q with
  |false=>rfl
  |true=>exact absurd e ((h.below po hq).2 (iD.1 hu)).2
 ·right
  by_cases cZ:(p++[(T.K p)[i]]) <+: q
  ·left
   exact⟨e,iD.2 ((h.below po hq).1 ⟨cZ,e⟩),aT q cZ,by rw[iB];simp[cZ]⟩
  ·right
   refine⟨e,?_,by rw[iB];simp[cZ]⟩
   cases hu:under (T.K (p++[(T.K p)[i]])) (p++[(T.K p)[i]]) q with
   |false=>rfl
   |true=>exact absurd ((h.below po hq).2 (iD.1 hu)).1 cZ
section
variable {T:Tree} {fr:Path->List cf} {mn:Path->List Nat}
theorem Ys(h:oB T):∀(n:Nat) (p:Path) (tk:Path->List cf) (ct:Path->List Nat) (fr:Path->List cf) (mn:Path->List Nat),p∈T.D->17-p.length<=n->∀{L:List aY} {μ:Mem},Ow (cb T tk ct fr mn::L) μ->∀{K:Kq},(∀μ',Ow (cb T (mix (T.K p) p fr tk) (mix (T.K p) p mn ct) (mix (T.K p) p (λ_=>[]) fr) (mix (T.K p) p (λ_=>[]) mn)::L) μ'->K (.aD []) μ')->aa prog 99 [pP (T.B p) 0] μ K:=by
 intro n
 induction n with
 |zero=>intro p tk ct fr mn hp hn;have:=h.len p hp;omega
 |succ n ih=>
  intro p tk ct fr mn hp hn L μ hO K hk
  obtain⟨F,hF⟩:=cb.rd hp hO
  refine Fv.c ⟨_,_,_,aE hF (by simp),?_⟩
  have ED:=h.kl hp
  have ui:=h.Bg
  ·refine ak.each (n:=(T.K p).length) (by omega) (λi u=>Ow (cb T (mix ((T.K p).take i) p fr tk) (mix ((T.K p).take i) p mn ct) (mix ((T.K p).take i) p (λ_=>[]) fr) (mix ((T.K p).take i) p (λ_=>[]) mn)::L) u) ?_ ?_ ?_
   ·exact cb.same (λq _=>by simp[mix,under]) hO
   ·rintro i u next hi h2 ar
    have po:=h.HE hp hi
    obtain⟨b,hb,fB⟩:=cb.Zn hp h2 hi
    dsimp only[gK]
    rw[hb]
    refine ab.t (by simpa using hi) ⟨by omega,by simpa using hi,_,by simpa using fB,?_⟩
    obtain⟨A,B,F1,e,h3⟩:=cb.out po h2
    dsimp only[nP,nn,aF]
    refine⟨_,_,h3.rd 0 rfl (by simp),?_⟩
    refine h3.st 0 rfl (by simp) λu1 h4=>?_
    refine⟨_,_,h4.rd 0 rfl (by simp[dN]),?_⟩
    refine h4.st 0 rfl (by simp[dN]) λu2 h5=>?_
    refine h5.st 0 rfl (by simp[dN]) λu3 h6=>?_
    refine h6.st 0 rfl (by simp[dN]) λu4 h7=>?_
    have h8:Ow (cb T (aQ (mix ((T.K p).take i) p fr tk) (p++[(T.K p)[i]]) (mix ((T.K p).take i) p (λ_=>[]) fr (p++[(T.K p)[i]]))) (aQ (mix ((T.K p).take i) p mn ct) (p++[(T.K p)[i]]) (mix ((T.K p).take i) p (λ_=>[]) mn (p++[(T.K p)[i]]))) (aQ (mix ((T.K p).take i) p (λ_=>[]) fr) (p++[(T.K p)[i]]) []) (aQ (mix ((T.K p).take i) p (λ_=>[]) mn) (p++[(T.K p)[i]]) [])::L) u4:=by
     refine cb.set (F:=⟨F1.a,F1.v,F1.c,F1.m,F1.f,F1.q,.nil,.nil⟩) h.nodup e (λq _ aT=>⟨aX aT,aX aT,aX aT,aX aT⟩) ?_
     have e2:(gK T (aQ (mix ((T.K p).take i) p fr tk) (p++[(T.K p)[i]]) (mix ((T.K p).take i) p (λ_=>[]) fr (p++[(T.K p)[i]]))) (aQ (mix ((T.K p).take i) p mn ct) (p++[(T.K p)[i]]) (mix ((T.K p).take i) p (λ_=>[]) mn (p++[(T.K p)[i]]))) (aQ (mix ((T.K p).take i) p (λ_=>[]) fr) (p++[(T.K p)[i]]) []) (aQ (mix ((T.K p).take i) p (λ_=>[]) mn) (p++[(T.K p)[i]]) []) (p++[(T.K p)[i]]) ⟨F1.a,F1.v,F1.c,F1.m,F1.f,F1.q,.nil,.nil⟩).pv=dN (dN (dN (dN (gK T (mix ((T.K p).take i) p fr tk) (mix ((T.K p).take i) p mn ct) (mix ((T.K p).take i) p (λ_=>[]) fr) (mix ((T.K p).take i) p (λ_=>[]) mn) (p++[(T.K p)[i]]) F1).pv 9 [.list 2 F1.f ((mix ((T.K p).take i) p (λ_=>[]) fr (p++[(T.K p)[i]])).map cf.pv)]) 10 [.list 1 F1.q ((mix ((T.K p).take i) p (λ_=>[]) mn (p++[(T.K p)[i]])).map jv)]) 12 [.list 2 .nil []]) 13 [.list 1 .nil []]:=by
      unfold gK oc.pv
      simp only[cW]
      rfl
     rw[e2];exact h7
    refine ih _ _ _ _ _ po (by simp;omega) h8 λu5 h9=>⟨rfl,ar _ (cb.same (λq hq=>?_) h9)⟩
    rcases h.step hp hi hq with⟨e,a1,a2,a3⟩|⟨e,a1,a2,a3⟩|⟨e,a1,a2⟩
    ·subst e
     simp[mix,aQ,a1,a2,a3]
    ·simp[mix,aQ,e,a1,a2,a3]
    ·simp[mix,aQ,e,a1,a2]
   ·rintro u next h2
    refine ab.f (by simp) ?_
    rw[List.take_length]at h2
    exact hk u h2
end
theorem PH{es:List af}{c:ae}(hl:cr c){ts:List cf}{a b:Nat}(h:∀t∈ts,t.binds.length<=a/\t.tags.length<=b):∀t∈stepT es c ts,t.binds.length<=a+100*aR c/\t.tags.length<=b+1:=by
 intro t ht
 obtain⟨_,l1,l2,_⟩:=(bu c).1 hl
 have hs:1<=aR c:=by rw[bM];omega
 unfold stepT at ht
 split at ht
 ·obtain⟨t',BU,hm⟩:=List.mem_flatMap.1 ht
  obtain⟨y,hy,rfl⟩:=List.mem_map.1 hm
  obtain⟨h1,h2⟩:=h t' BU
  unfold aN at hy
  obtain⟨e',_,he⟩:=List.mem_filterMap.1 hy
  cases hc:cO c e' t'.binds with
  |none=>rw[hc]at he;cases he
  |some q=>
   rw[hc]at he
   simp only[Option.map_some,Option.some.injEq]at he
   subst he
   have:=GD hc
   simp only[List.length_append,List.length_singleton]
   omega
 ·obtain⟨h1,h2⟩:=h t (List.mem_filter.1 ht).1
  omega
theorem pR{es:List af}:∀{p:Path},bD p->∀t∈au es p,t.binds.length<=100*aj p/\t.tags.length<=p.length:=by
 have key:∀(n:Nat) (p:Path),p.length=n->bD p->∀t∈au es p,t.binds.length<=100*aj p/\t.tags.length<=p.length:=by
  intro n
  induction n with
  |zero=>
   intro p hp _ t ht
   have:p=[]:=List.eq_nil_of_length_eq_zero hp
   subst this
   simp only[au,List.foldl_nil,List.mem_singleton]at ht
   subst ht;simp[EO]
  |succ n ih=>
   intro p hp hl t ht
   obtain⟨q,c,rfl⟩:=qD (p:=p) (by rintro rfl;simp at hp)
   have XQ:=bH.1 hl
   rw[cV]at ht
   have:=PH (XQ c (by simp)) (ih q (by simpa using hp) (bH.2 λd hd=>XQ d (by simp[hd]))) t ht
   rw[mH]
   simp only[aj,List.length_append,List.length_singleton]
   omega
 intro p hl
 exact key _ p rfl hl
def cQ(es:List af)(p:Path):List Nat:=if p=[]then[]else je es (JY p) (au es p.dropLast)
theorem dY(es:List af)(p:Path)(c:ae):cQ es (p++[c])=je es c (au es p):=by
 unfold cQ;rw[if_neg (by simp),qV,List.dropLast_concat]
section
variable {T:Tree} {tk:Path->List cf} {ct:Path->List Nat} {fr:Path->List cf} {mn:Path->List Nat}
def Qu(S:List RN.El)(j:Int):Prop:=∃s∈S,s.1=j
theorem UY{p:Path}{bl:Nat}{S:List RN.El}(hM:∀j∈T.M p,-1<=j/\j<1000000)(hm:(T.M p).length<=1000)(hp:p∈T.D)(hS:ca RN.ck RN.key S)(Yd:S.length<=1000000000){L:List aY}{μ:Mem}(hO:Ow (cb T tk ct fr mn::RN.At bl S::L) μ){K:Kq}
  (h1:(∃j∈T.M p,Qu S j)->K (pB true) μ) (h0:(∀j∈T.M p,¬Qu S j)->K (pB false) μ):aa prog 160 [pP (T.B p) 0,pP bl 0] μ K:=by
 obtain⟨F,hF⟩:=cb.rd hp hO
 refine Er.c ⟨_,_,aE hF (by simp),?_⟩
 refine ak.each (n:=(T.M p).length) (by omega) (λk u=>u=μ/\∀j∈(T.M p).take k,¬Qu S j) ⟨rfl,by simp⟩ ?_ ?_
 ·rintro k u next hk ⟨rfl,cm⟩ ar
  have hj:=hM _ (List.getElem_mem hk)
  refine ab.t (by simpa using hk) ⟨by omega,_,vK hk,_,rfl,?_⟩
  refine RN.tc (Ow.swap hO) hS (by omega) ⟨(T.M p)[k],hj⟩ ⟨_,_,rfl,?_⟩
  refine ab.mk (λhs=>h1 ⟨(T.M p)[k],List.getElem_mem hk,?_⟩) (λhs=>ar _ ⟨rfl,λj EF=>?_⟩)
  ·obtain⟨s,hs⟩:=Option.isSome_iff_exists.1 hs
   obtain⟨a1,a2⟩:=(aM RN.hc hS).1 hs
   exact⟨s,a1,a2⟩
  ·rw[List.take_add_one,List.getElem?_eq_getElem hk,List.mem_append]at EF
   rcases EF with EF|EF
   ·exact cm j EF
   ·simp only[Option.toList_some,List.mem_singleton]at EF
    subst EF
    rintro⟨s,a1,a2⟩
    have:aL RN.ck RN.key (T.M p)[k] S=some s:=(aM RN.hc hS).2 ⟨a1,a2⟩
    have RJ:(aL RN.ck RN.key (T.M p)[k] S).isSome=false:=hs
    rw[this]at RJ;cases RJ
 ·rintro u next ⟨rfl,cm⟩
  rw[List.take_length]at cm
  exact ab.f (by simp) (h0 cm)
variable {n:Nat} {x:NC} {es fs:List af} {ms:dL} {ids:pt}
structure YS(T:Tree)(B:Int)(es:List af)(tk:Path->List cf)(ct:Path->List Nat):Prop where
 tok:∀p∈T.D,tk p=au es p
 EH:∀p c,p++[c]∈T.D->ct (p++[c])=je es c (au es p)
 le:∀p c,p++[c]∈T.D->∀j,((dZ es c (au es p) j:Nat):Int)<=B
theorem oB.LB{T:Tree}(h:oB T){p:Path}{c:ae}(hp:p++[c]∈T.D):vC c/\aR c<=100:=by
 have h1:=jX.1 (h.okk _ hp) c (by simp)
 have h2:=h.size _ hp
 rw[mH]at h2
 simp only[aj]at h2
 exact⟨h1,by omega⟩
theorem afU(h:oB T)(hA:eC fs ms)(hI:kJ fs ids)(hT:0<=x.T/\x.T<=1000000)(EE:YS T x.T es tk ct){bl:Nat}{S:List RN.El}(hS:ca RN.ck RN.key S)(Yd:S.length<=1000000000)(vZ:∀p c,p++[c]∈T.D->lY ms (T.M (p++[c])) 0 c)(hM:∀p∈T.D,∀j∈T.M p,-1<=j/\j<1000000)
  (abp:∀y∈ms,¬Qu S y.1->es.filter (bw y.2.c)=fs.filter (bw y.2.c)):
  ∀(n1:Nat) (p:Path) (fr:Path->List cf) (mn:Path->List Nat) (fl:Fl) (VO:Bool),p∈T.D->17-p.length<=n1->(au fs p).length<=1000001->(VO=false->au es p=au fs p)->∀{L:List aY} {μ:Mem},Ow (an n x fs ms ids::cb T tk ct fr mn::RN.At bl S::L) μ->∀{K:Kq},
  ((∀q c,q++[c]∈T.D->p <+: q->∀j,((dZ fs c (au fs q) j:Nat):Int)<=x.T)->∀μ',Ow (an n x fs ms ids::cb T tk ct (mix (T.K p) p (au fs) fr) (mix (T.K p) p (cQ fs) mn)::RN.At bl S::L) μ'->K (pB true) μ')->
  ((∃q c j,q++[c]∈T.D/\x.T<((dZ fs c (au fs q) j:Nat):Int))->∀qm pL μ',Ow (an n x fs ms ids::cb T tk ct qm pL::RN.At bl S::L) μ'->K (pB false) μ')->
  aa prog 98 [pP n 0,pP (T.B p) 0,.list 2 fl ((au fs p).map cf.pv),pB VO,pP bl 0] μ K:=by
 intro n1
 induction n1 with
 |zero=>intro p fr mn fl VO hp hn;have:=h.len p hp;omega
 |succ n1 ih=>
  intro p fr mn fl VO hp hn ow uW L μ hO K jw XR
  have ED:=h.kl hp
  have ui:=h.Bg
  obtain⟨F,hF⟩:=cb.rd hp (Ow.swap hO)
  refine BF.c ⟨_,_,_,aE hF (by simp),?_⟩
  refine ak.each (n:=(T.K p).length) (by omega) (λi u=>(∀q c,q++[c]∈T.D->under ((T.K p).take i) p (q++[c])=true->∀j,((dZ fs c (au fs q) j:Nat):Int)<=x.T)/\Ow (an n x fs ms ids::cb T tk ct (mix ((T.K p).take i) p (au fs) fr) (mix ((T.K p).take i) p (cQ fs) mn)::RN.At bl S::L) u) ⟨λq c _ hu=>by simp[under]at hu,?_⟩ ?_ ?_
  ·exact Ow.swap (cb.same (λq _=>by simp[mix,under]) (Ow.swap hO))
  ·rintro i u next hi ⟨hC,h2⟩ ar
   have po:=h.HE hp hi
   have OQ:=Ow.swap h2
   obtain⟨b,hb,fB⟩:=cb.Zn hp OQ hi
   generalize hFi:mix ((T.K p).take i) p (au fs) fr=Fi at h2 OQ
   generalize hMi:mix ((T.K p).take i) p (cQ fs) mn=Mi at h2 OQ
   generalize hc:(T.K p)[i]=c at*
   obtain⟨fO,XH⟩:=h.LB po
   dsimp only[gK]
   rw[hb]
   refine ab.t (by simpa using hi) ⟨by omega,by simpa using hi,_,by simpa using fB,?_⟩
   dsimp only[nP,nn,aF]
   obtain⟨A,B,F1,e,h3⟩:=cb.out po OQ
   refine⟨_,_,h3.rd 0 rfl (by simp),?_⟩
   refine h3.st 0 rfl (by simp) λu1 h4=>?_
   refine⟨_,_,h4.rd 0 rfl (by simp[dN]),?_⟩
   refine h4.st 0 rfl (by simp[dN]) λu2 h5=>?_
   have h6:Ow (an n x fs ms ids::cb T tk ct (aQ Fi (p++[c]) (tk (p++[c]))) (aQ Mi (p++[c]) (ct (p++[c])))::RN.At bl S::L) u2:=by
    refine Ow.swap (cb.set (F:=⟨F1.a,F1.v,F1.c,F1.m,F1.t,F1.k,F1.t,F1.k⟩) h.nodup e (tk:=tk) (ct:=ct) (fr:=Fi) (mn:=Mi) (λq _ aT=>⟨rfl,rfl,aX aT,aX aT⟩) ?_)
    have e2:(gK T tk ct (aQ Fi (p++[c]) (tk (p++[c]))) (aQ Mi (p++[c]) (ct (p++[c]))) (p++[c]) ⟨F1.a,F1.v,F1.c,F1.m,F1.t,F1.k,F1.t,F1.k⟩).pv=dN (dN (gK T tk ct Fi Mi (p++[c]) F1).pv 12 [.list 2 F1.t ((tk (p++[c])).map cf.pv)]) 13 [.list 1 F1.k ((ct (p++[c])).map jv)]:=by
     unfold gK oc.pv
     simp only[cW]
     rfl
    rw[e2];exact h5
   have hmp:(T.M (p++[c])).length<=1000:=by rw[h.ml p c po];omega
   have TC:=EE.tok _ po
   rw[cV]at TC
   have HQ:=EE.EH p c po
   refine⟨λs u=>(s=true\/(s=false/\VO=false/\∀j∈T.M (p++[c]),¬Qu S j))/\Ow (an n x fs ms ids::cb T tk ct (aQ Fi (p++[c]) (tk (p++[c]))) (aQ Mi (p++[c]) (ct (p++[c])))::RN.At bl S::L) u,ab.mk (λha=>⟨.inl rfl,h6⟩) (λha=>?_),?_⟩
   ·have h7:Ow (cb T tk ct (aQ Fi (p++[c]) (tk (p++[c]))) (aQ Mi (p++[c]) (ct (p++[c])))::RN.At bl S::an n x fs ms ids::L) u2:=Ow.ord [1,1,0] h6
    exact UY (hM _ po) hmp po hS Yd h7 (λ_=>⟨_,rfl,.inl rfl,h6⟩) (λcm=>⟨_,rfl,.inr ⟨rfl,ha,cm⟩,h6⟩)
   ·rintro s u3 ⟨hs,h7⟩
    have ZF:s=false->qe es fs c/\au es p=au fs p:=λes0=>by
     rcases hs with e|⟨_,ha,cm⟩
     ·rw[es0]at e;cases e
     ·refine⟨UA (ms:=ms) (aG:=T.M (p++[c])) (λk hk y hy=>?_) c 0 (vZ p c po),uW ha⟩
      obtain⟨OG,HI⟩:=(aM ax hA.pJ).1 hy
      have HI:y.1=k:=HI
      exact abp y OG (by rw[HI];exact cm k hk)
    refine⟨λ_ u=>(∀j,((dZ fs c (au fs p) j:Nat):Int)<=x.T)/\Ow (an n x fs ms ids::cb T tk ct (aQ Fi (p++[c]) (au fs (p++[c]))) (aQ Mi (p++[c]) (cQ fs (p++[c])))::RN.At bl S::L) u,ab.mk (λgV=>?_) (λhsf=>?_),?_⟩
    ·obtain⟨A2,B2,F2,e2,h8⟩:=cb.out po (Ow.swap h7)
     have h9:Ow (an n x fs ms ids::Pt (T.B (p++[c])) 156 (gK T tk ct (aQ Fi (p++[c]) (tk (p++[c]))) (aQ Mi (p++[c]) (ct (p++[c]))) (p++[c]) F2).pv::IT T (p++[c])::Ow ((A2++B2).map (fI T tk ct (aQ Fi (p++[c]) (tk (p++[c]))) (aQ Mi (p++[c]) (ct (p++[c])))))::RN.At bl S::L) u3:=Ow.ord [3] h8
     have Bv:(gK T tk ct (aQ Fi (p++[c]) (tk (p++[c]))) (aQ Mi (p++[c]) (ct (p++[c]))) (p++[c]) F2).c=c:=qV p c
     have sM:=nG (h.okk p hp)
     have gD:=h.size p hp
     have hbb:=pR (es:=fs) sM
     have hln:=h.len p hp
     refine Pa (n:=n) (x:=x) (ids:=ids) hA hI hT (xb:=T.B (p++[c])) (gK T tk ct (aQ Fi (p++[c]) (tk (p++[c]))) (aQ Mi (p++[c]) (ct (p++[c]))) (p++[c]) F2) (by rw[Bv];exact fO) (by rw[Bv];exact XH) (by rw[Bv];exact vZ p c po) (by rw[Bv];exact h.ml p c po) (au fs p) _ ow (λt ht=>by have:=hbb t ht;omega) h9 (λhle f u4 qk=>?_) (λWn u4 qk=>?_)
     ·rw[Bv]at hle |-
      refine⟨_,_,_,_,_,rfl,ab.f rfl ?_⟩
      have A_:Ow (Pt (T.B (p++[c])) 156 (gK T tk ct (aQ Fi (p++[c]) (tk (p++[c]))) (aQ Mi (p++[c]) (ct (p++[c]))) (p++[c]) F2).pv::IT T (p++[c])::Ow ((A2++B2).map (fI T tk ct (aQ Fi (p++[c]) (tk (p++[c]))) (aQ Mi (p++[c]) (ct (p++[c])))))::an n x fs ms ids::RN.At bl S::L) u4:=Ow.ord [1,1,1,0] qk
      dsimp only[nP,nn,aF]
      refine A_.st 0 rfl (by simp) λu5 mw=>?_
      refine mw.st 0 rfl (by simp[dN]) λu6 Bx=>⟨hle,?_⟩
      refine Ow.swap (cb.set (F:=⟨F2.a,F2.v,F2.c,F2.m,F2.t,F2.k,f,.sh⟩) h.nodup e2 (tk:=tk) (ct:=ct) (fr:=aQ Fi (p++[c]) (tk (p++[c]))) (mn:=aQ Mi (p++[c]) (ct (p++[c]))) (λq _ aT=>⟨rfl,rfl,by rw[aX aT,aX aT],by rw[aX aT,aX aT]⟩) ?_)
      have e3:(gK T tk ct (aQ Fi (p++[c]) (au fs (p++[c]))) (aQ Mi (p++[c]) (cQ fs (p++[c]))) (p++[c]) ⟨F2.a,F2.v,F2.c,F2.m,F2.t,F2.k,f,.sh⟩).pv=dN (dN (gK T tk ct (aQ Fi (p++[c]) (tk (p++[c]))) (aQ Mi (p++[c]) (ct (p++[c]))) (p++[c]) F2).pv 12 [.list 2 f ((stepT fs c (au fs p)).map cf.pv)]) 13 [.list 1 .sh ((je fs c (au fs p)).map jv)]:=by
       unfold gK oc.pv
       simp only[cW,cV,dY]
       rfl
      rw[e3];exact Bx
     ·rw[Bv]at Wn
      obtain⟨j,hj⟩:=Wn
      refine⟨_,_,_,_,_,rfl,ab.t rfl (XR ⟨p,c,j,po,hj⟩ (aQ Fi (p++[c]) (tk (p++[c]))) (aQ Mi (p++[c]) (ct (p++[c]))) u4 ?_)⟩
      exact Ow.swap (cb.in_ e2 (F:=F2) (Ow.ord [1,1,1,0] qk))
    ·obtain⟨zE,rS⟩:=ZF hsf
     refine⟨λj=>?_,?_⟩
     ·rw[<- GH zE,<- rS];exact EE.le p c po j
     ·have e1:tk (p++[c])=au fs (p++[c]):=by rw[TC,cV,rS,Cv zE]
      have e2:ct (p++[c])=cQ fs (p++[c]):=by
       rw[HQ,dY,rS];unfold je
       exact List.map_congr_left λj _=>GH zE _ j
      rw[<- e1,<- e2];exact h7
    ·rintro _ u4 ⟨hle,h8⟩
     obtain⟨F3,hF3⟩:=cb.rd po (Ow.swap h8)
     refine⟨_,_,aE hF3 (by simp),?_⟩
     have XX:(gK T tk ct (aQ Fi (p++[c]) (au fs (p++[c]))) (aQ Mi (p++[c]) (cQ fs (p++[c]))) (p++[c]) F3).fr=au fs (p++[c]):=cW _ _ _
     rw[XX]
     have hlen:(au fs (p++[c])).length<=1000001:=by
      have:=hle 0
      rw[jI]at this
      rw[cV];omega
     refine ih (p++[c]) _ _ _ s po (by simp;omega) hlen (λhsf=>?_) h8 (λhC2 u5 h9=>⟨_,rfl,ab.f rfl (ar _ ⟨λq d hq hu j=>?_,?_⟩)⟩) (λWn qm pL u5 h9=>⟨_,rfl,ab.t rfl (XR Wn qm pL u5 h9)⟩)
     ·obtain⟨zE,rS⟩:=ZF hsf
      rw[cV,cV,rS,Cv zE]
     ·rcases h.step hp hi hq with⟨e,a1,a2,a3⟩|⟨e,a1,a2,a3⟩|⟨e,a1,a2⟩
      ·rw[hc]at e
       obtain⟨e1,e2⟩:=List.append_inj' e rfl
       simp only[List.cons.injEq,and_true]at e2
       rw[e1,e2];exact hle j
      ·rw[hc]at e a1
       obtain⟨cZ,aT⟩:=(h.below po hq).2 (iD.1 a1)
       refine hC2 q d hq ?_ j
       obtain⟨r,hr⟩:=cZ
       cases BV:r.getLast? with
       |none=>
        rw[List.getLast?_eq_none_iff]at BV
        subst BV
        rw[List.append_nil]at hr
        exact absurd hr.symm aT
       |some z=>
        obtain⟨r',EZ⟩:=List.getLast?_eq_some_iff.1 BV
        rw[EZ,<- List.append_assoc]at hr
        obtain⟨e1,_⟩:=List.append_inj' hr rfl
        exact⟨r',e1⟩
      ·rw[a2]at hu;exact hC q d hq hu j
     ·refine Ow.swap (cb.same (λq hq=>?_) (Ow.swap h9))
      have df:=h.step hp hi hq
      rw[hc]at df
      rw[<- hFi,<- hMi]
      rcases df with⟨e,a1,a2,a3⟩|⟨e,a1,a2,a3⟩|⟨e,a1,a2⟩
      ·subst e;simp[mix,aQ,a1,a2,a3]
      ·simp[mix,aQ,e,a1,a2,a3]
      ·simp[mix,aQ,e,a1,a2]
  ·rintro u next ⟨hC,h2⟩
   refine ab.f (by simp) ?_
   rw[List.take_length]at hC h2
   refine jw (λq c hq cZ j=>hC q c hq (iD.2 ((h.below hp hq).1 ⟨cZ.trans (List.prefix_append _ _),λe=>?_⟩)) j) u h2
   have h4:=cZ.length_le
   have h5:=congrArg List.length e
   simp at h5;omega
end
structure kV(B:Int)(T:Tree)(es:List af)(ms:dL)(tk:Path->List cf)(ct:Path->List Nat):Prop where
 tree:oB T
 use:gB es ms (T.D.flatMap T.M)
 fit:∀p c,p++[c]∈T.D->lY ms (T.M (p++[c])) 0 c
 dH:YS T B es tk ct
theorem kV.aer{B:Int}{T:Tree}{es:List af}{ms:dL}{tk:Path->List cf}{ct:Path->List Nat}(h:kV B T es ms tk ct):(T.D.flatMap T.M).length<=500000:=by
 rw[List.length_flatMap]
 have:∀D:List Path,(∀p∈D,(T.M p).length<=100)->(D.map λp=>(T.M p).length).sum<=100*D.length:=by
  intro D
  induction D with
  |nil=>intro _;simp
  |cons p D ih=>
   intro h
   have h1:=h p (by simp)
   have h2:=ih λq hq=>h q (by simp[hq])
   simp only[List.map_cons,List.sum_cons,List.length_cons];omega
 have h1:=this T.D λp hp=>?_
 ·have:=h.tree.Bg;omega
 ·by_cases e:p=[]
  ·subst e;rw[h.tree.m0];simp
  ·obtain⟨q,c,rfl⟩:=qD e
   rw[h.tree.ml q c hp];exact(h.tree.LB hp).2
section
variable {T:Tree} {tk:Path->List cf} {ct:Path->List Nat} {fr:Path->List cf} {mn:Path->List Nat}
theorem cb.inj{L:List aY}{μ:Mem}{p q:Path}(hp:p∈T.D)(hq:q∈T.D)(h:Ow (cb T tk ct fr mn::L) μ)(e:T.B p=T.B q):p=q:=by
 obtain⟨A,B,F,eD,h1⟩:=cb.out hp h
 by_cases aT:q=p
 ·exact aT.symm
 ·exfalso
  have hm:q∈A++B:=by
   rw[eD,List.mem_append,List.mem_cons]at hq
   rcases hq with h|h|h
   ·simp[h]
   ·exact absurd h aT
   ·simp[h]
  obtain⟨A2,B2,e2⟩:=List.append_of_mem (List.mem_map_of_mem (f:=fI T tk ct fr mn) hm)
  rw[e2]at h1
  obtain⟨μ1,μ2,hs,rfl,hP,h2⟩:=h1
  obtain⟨ν1,ν2,Du,rfl,hV,h3⟩:=h2
  obtain⟨ρ1,ρ2,hs3,rfl,h4,h5⟩:=h3
  obtain⟨σ,hσ,gG⟩:=h4.mem (fI T tk ct fr mn q) (by simp)
  obtain⟨F2,h6⟩:=hσ
  have h7:=h6.get 0 rfl
  have h8:=gG _ _ h7
  have hP:μ1 (T.B p)=_:=hP
  rw[<- e]at h8
  have h9:=(hs (T.B p)).resolve_left (by rw[hP];simp)
  have qk:ν1 (T.B p)=none:=by
   rcases Du (T.B p)with h|h
   ·exact h
   ·rw[Mem.b_ h8]at h;cases h
  rw[Mem.cj qk,Mem.b_ h8]at h9
  cases h9
theorem aka(h:oB T){p:Path}(hp:p∈T.D)(c:ae)(fa fv fc:Fl){L:List aY}{μ:Mem}(hO:Ow (cb T tk ct fr mn::L) μ){K:Kq}
  (h1:p++[c]∈T.D->K (pP (T.B (p++[c])) 0) μ) (h0:p++[c]∉T.D->K (.raw (.pointer none)) μ):
  aa prog 103 [pP (T.B p) 0,.agg [pI c.kind,pB c.goal,pS c.id,.list 6 fa (c.attr.map Test.pv),.list 6 fv (c.value.map Test.pv),pB c.acc,.list 7 fc (c.conds.map ae.pv)]] μ K:=by
 have ED:=h.kl hp
 have ui:=h.Bg
 obtain⟨F,hF⟩:=cb.rd hp hO
 refine NN.c ⟨_,_,_,aE hF (by simp),?_⟩
 refine ak.each (n:=(T.K p).length) (by omega) (λi u=>u=μ/\c∉(T.K p).take i) ⟨rfl,by simp⟩ ?_ ?_
 ·rintro i u next hi ⟨rfl,cm⟩ ar
  have po:=h.HE hp hi
  obtain⟨fO,XH⟩:=h.LB po
  obtain⟨b,hb,fB⟩:=cb.Zn hp hO hi
  obtain⟨F2,DD⟩:=cb.rd po hO
  dsimp only[gK]
  rw[hb]
  refine ab.t (by simpa using hi) ⟨by omega,by simpa using hi,_,by simpa using fB,?_⟩
  refine⟨_,_,_,_,_,_,_,_,_,_,aE DD (by simp),?_⟩
  have hl:JY (p++[(T.K p)[i]])=(T.K p)[i]:=qV _ _
  have MN:=bM (T.K p)[i]
  dsimp only[gK]
  rw[hl]
  refine(aej (aj (T.K p)[i].conds) .sh .sh .sh .sh .sh .sh (T.K p)[i] c (Nat.le_refl _) (by omega) ((oO _).1 fO).1).call (λe=>⟨_,rfl,ab.t rfl ?_⟩) (λe=>⟨_,rfl,ab.f rfl (ar _ ⟨rfl,λhm=>?_⟩)⟩)
  ·rw[e]at po |-;exact h1 po
  ·rw[List.take_add_one,List.getElem?_eq_getElem hi,List.mem_append]at hm
   rcases hm with hm|hm
   ·exact cm hm
   ·simp only[Option.toList_some,List.mem_singleton]at hm
    exact e hm.symm
 ·rintro u next ⟨rfl,cm⟩
  rw[List.take_length]at cm
  exact ab.f (by simp) (h0 λhm=>cm ((h.kids p hp c).2 hm))
end
def Tree.del(T:Tree)(q:Path)(c:ae):Tree:=⟨T.D.filter λr=>decide (r≠q++[c]),T.B,T.M,T.E,aQ T.K q ((T.K q).filter λd=>decide (d≠c)),T.S⟩
theorem oB.del{T:Tree}(h:oB T){q:Path}{c:ae}(hqc:q++[c]∈T.D)(hk:T.K (q++[c])=[]):oB (T.del q c):=by
 have hq:=h.up _ _ hqc
 have hm:∀r,r∈(T.del q c).D↔r∈T.D/\r≠q++[c]:=λr=>by unfold Tree.del;simp
 have hK:∀p,p∈(T.del q c).D->∀d,d∈(T.del q c).K p↔p++[d]∈(T.del q c).D:=λp hp d=>by
  obtain⟨h1,h2⟩:=(hm p).1 hp
  rw[hm]
  show d∈aQ T.K q _ p↔_
  by_cases e:p=q
  ·subst e
   rw[cW,List.mem_filter,h.kids p h1 d]
   simp
  ·rw[aX e,h.kids p h1 d]
   refine⟨λhd=>⟨hd,λe2=>e ?_⟩,λhd=>hd.1⟩
   exact(List.append_inj' e2 rfl).1
 refine⟨h.nodup.filter _,(hm _).2 ⟨h.root,by simp⟩,hK,λp hp=>?_,λp d hd=>?_,λp hp=>h.len p ((hm p).1 hp).1,λp hp=>h.okk p ((hm p).1 hp).1,λp hp=>h.size p ((hm p).1 hp).1,λp d hd=>h.ml p d ((hm _).1 hd).1,h.m0,Nat.le_trans (List.length_filter_le _ _) h.Bg,λp hp=>h.mge p ((hm p).1 hp).1⟩
 ·show(aQ T.K q _ p).Nodup
  by_cases e:p=q
  ·subst e;rw[cW];exact(h.Bt p hq).filter _
  ·rw[aX e];exact h.Bt p ((hm p).1 hp).1
 ·obtain⟨h1,h2⟩:=(hm _).1 hd
  refine(hm p).2 ⟨h.up _ _ h1,λe=>?_⟩
  subst e
  have:=(h.kids _ hqc d).2 h1
  rw[hk]at this;cases this
theorem UK{T:Tree}(h:oB T){p:Path}(hp:p∈T.D):(T.D.flatMap T.M).Perm (T.M p++(T.D.filter λr=>decide (r≠p)).flatMap T.M):=by
 obtain⟨A,B,e⟩:=List.append_of_mem hp
 have hn:=h.nodup
 rw[e]at hn
 obtain⟨n1,n2,n3⟩:=List.nodup_append.1 hn
 have n4:=(List.nodup_cons.1 n2).1
 have e2:T.D.filter (λr=>decide (r≠p))=A++B:=by
  rw[e,List.filter_append,List.filter_cons,if_neg (by simp)]
  congr 1
  ·exact List.filter_eq_self.2 λa ha=>by simpa using λe=>n3 a ha p (by simp) e
  ·exact List.filter_eq_self.2 λa ha=>by simp only[decide_eq_true_eq];rintro rfl;exact n4 ha
 rw[e2,e,List.flatMap_append,List.flatMap_cons,List.flatMap_append,<- List.append_assoc,<- List.append_assoc]
 exact List.perm_append_comm.append_right _
theorem ni{T:Tree}(h:oB T){p:Path}{A B:List Path}(e:T.D=A++p::B):T.D.filter (λr=>decide (r≠p))=A++B:=by
 have hn:=h.nodup
 rw[e]at hn
 obtain⟨n1,n2,n3⟩:=List.nodup_append.1 hn
 have n4:=(List.nodup_cons.1 n2).1
 rw[e,List.filter_append,List.filter_cons,if_neg (by simp)]
 congr 1
 ·exact List.filter_eq_self.2 λa ha=>by simpa using λe=>n3 a ha p (by simp) e
 ·exact List.filter_eq_self.2 λa ha=>by simp only[decide_eq_true_eq];rintro rfl;exact n4 ha
theorem erase_filter{c:ae}:∀{l:List ae} {j:Nat} (hj:j<l.length),l.Nodup->l[j]=c->l.eraseIdx j=l.filter λd=>decide (d≠c)
 |[],j,hj,_,_=>by simp at hj
 |d::l,0,_,hn,e=>by
  have e:d=c:=e
  subst e
  obtain⟨h1,h2⟩:=List.nodup_cons.1 hn
  rw[List.eraseIdx_cons_zero,List.filter_cons,if_neg (by simp)]
  exact(List.filter_eq_self.2 λa ha=>by simp only[decide_eq_true_eq];rintro rfl;exact h1 ha).symm
 |d::l,j+1,hj,hn,e=>by
  obtain⟨h1,h2⟩:=List.nodup_cons.1 hn
  have e:l[j]'(by simpa using hj)=c:=e
  rw[List.eraseIdx_cons_succ,List.filter_cons,if_pos,erase_filter (by simpa using hj) h2 e]
  simp only[decide_eq_true_eq]
  rintro rfl
  exact h1 (e▸List.getElem_mem _)
theorem cb.Ni{T T':Tree}{tk xq:Path->List cf}{ct Bh:Path->List Nat}{fr qm:Path->List cf}{mn pL:Path->List Nat}{r:Path}(hB:T'.B r=T.B r)(hM:T'.M r=T.M r)(hE:T'.E r=T.E r)(hK:T'.K r=T.K r)(hS:T'.S r=T.S r)(hKB:∀c∈T.K r,T'.B (r++[c])=T.B (r++[c]))(h1:xq r=tk r)(h2:Bh r=ct r)(h3:qm r=fr r)(h4:pL r=mn r):fI T' xq Bh qm pL r=fI T tk ct fr mn r:=by
 unfold fI IT gK jk
 rw[hB,hM,hE,hK,hS,h1,h2,h3,h4,List.map_congr_left λc hc=>by rw[hKB c hc]]
theorem kV.del{B:Int}{T:Tree}{es:List af}{ms dd:dL}{tk:Path->List cf}{ct:Path->List Nat}(h:kV B T es ms tk ct){q:Path}{c:ae}(hqc:q++[c]∈T.D)(hk:T.K (q++[c])=[])(hu:gB es dd ((T.del q c).D.flatMap T.M))(hK:∀j d,j∈(T.del q c).D.flatMap T.M->eO ms j d->eO dd j d):kV B (T.del q c) es dd tk ct:=by
 have hm:∀r,r∈(T.del q c).D->r∈T.D:=λr hr=>(List.mem_filter.1 hr).1
 refine⟨h.tree.del hqc hk,hu,λp d hd=>?_,⟨λp hp=>h.dH.tok p (hm p hp),λp d hd=>h.dH.EH p d (hm _ hd),λp d hd=>h.dH.le p d (hm _ hd)⟩⟩
 exact wc (λj hj d'=>hK j d' (List.mem_flatMap.2 ⟨_,hd,hj⟩)) d 0 (h.fit p d (hm _ hd))
def Wb(T:Tree)(W:Path->Prop):Prop:=∀r∈T.D,r≠[]->¬W r->T.K r≠[]\/0<T.E r
def dE(B:Path->Nat)(l:Path):List Nat:=(List.range l.length).map λi=>B (l.take (i+1))
theorem dC(B:Path->Nat)(l:Path):(dE B l).length=l.length:=by simp[dE]
theorem sg(B:Path->Nat)(l:Path){k:Nat}(hk:k<l.length):((dE B l).map λb=>[pP b 0])[Int.toNat (k:Int)]?=some [pP (B (l.take (k+1))) 0]:=by
 have h:k<(dE B l).length:=by rw[dC];exact hk
 rw[Int.toNat_natCast,List.getElem?_map,List.getElem?_eq_getElem h]
 simp[dE]
theorem Qi(b:Nat):(Nat.beq b b&&Nat.beq 0 0)=true:=by simp
theorem Xs{a b:Nat}(h:a≠b):(Nat.beq a b&&Nat.beq 0 0)=false:=by
 cases hb:Nat.beq a b with
 |false=>rfl
 |true=>exact absurd (Nat.eq_of_beq_eq_true hb) h
section
variable {n:Nat} {x:NC} {es:List af} {ids:pt} {Bd:Int} {tk:Path->List cf} {ct:Path->List Nat} {fr:Path->List cf} {mn:Path->List Nat}
theorem cb.ab8{T:Tree}(h:oB T){q:Path}{c:ae}(hqc:q++[c]∈T.D){L:List aY}{μ:Mem}(hO:Ow (cb T tk ct fr mn::L) μ){j:Nat}(hj:j<(T.K q).length)(ej:(T.K q)[j]=c){K:Mem->Prop}
  (hK:∀F μ',Ow (cb (T.del q c) tk ct fr mn::Pt (T.B (q++[c])) 156 (gK T tk ct fr mn (q++[c]) F).pv::L) μ'->K μ'):
  ju (T.S q).1/\(T.K q).length<=(T.S q).2/\lZ 1 8 131 (Br (T.S q).1 0 (T.S q).2 1) j (T.S q).2 (.raw (.slice (Br (T.S q).1 (j+1) (T.S q).2 1) ((T.K q).length-(j+1)) ((T.S q).2-(j+1)))) μ (λs sn sc u=>stM (T.B q) 7 [.raw (.slice s sn sc)] u K):=by
 have hq:=h.up _ _ hqc
 have ED:=h.kl hq
 have ui:=h.Bg
 obtain⟨A,B,F,e,h1⟩:=cb.out hqc hO
 have aT:q≠q++[c]:=λe=>by have:=congrArg List.length e;simp at this
 have Gr:q∈A++B:=by
  rw[<- ni h e];exact List.mem_filter.2 ⟨hq,by simpa using aT⟩
 have h2:Ow (cb ⟨A++B,T.B,T.M,T.E,T.K,T.S⟩ tk ct fr mn::Pt (T.B (q++[c])) 156 (gK T tk ct fr mn (q++[c]) F).pv::L) μ:=by
  have h3:Ow (Ow ((A++B).map (fI T tk ct fr mn))::Pt (T.B (q++[c])) 156 (gK T tk ct fr mn (q++[c]) F).pv::L) μ:=Ow.ord [1,0] h1.swap.drop |> λh=>h
  exact h3
 obtain⟨A2,B2,F2,e2,h3⟩:=cb.out (T:=⟨A++B,T.B,T.M,T.E,T.K,T.S⟩) Gr h2
 have h4:Ow (iW 131 1 (.raw (.slice (T.S q).1 (T.K q).length (T.S q).2)) ((T.K q).map λc=>[pP (T.B (q++[c])) 0])::Pt (T.B q) 156 (gK T tk ct fr mn q F2).pv::Ow ((A2++B2).map (fI T tk ct fr mn))::Pt (T.B (q++[c])) 156 (gK T tk ct fr mn (q++[c]) F).pv::L) μ:=h3.swap
 have key:∀(μ':Mem),Ow (iW 131 1 (.raw (.slice (T.S q).1 ((T.K q).length-1) (T.S q).2)) (((T.K q).eraseIdx j).map λx=>[pP (T.B (q++[x])) 0])::Pt (T.B q) 156 (gK T tk ct fr mn q F2).pv::Ow ((A2++B2).map (fI T tk ct fr mn))::Pt (T.B (q++[c])) 156 (gK T tk ct fr mn (q++[c]) F).pv::L) μ'->stM (T.B q) 7 [.raw (.slice (T.S q).1 ((T.K q).length-1) (T.S q).2)] μ' K:=by
  intro μ' h5
  refine h5.st 1 rfl (by simp) λμ2 h6=>hK F μ2 ?_
  have hD:(T.del q c).D=A2++q::B2:=by
   show T.D.filter _=_
   rw[ni h e];exact e2
  have Zy:(A2++q::B2).Nodup:=by rw[<- hD];exact h.nodup.filter _
  have ZW:(T.del q c).K q=(T.K q).eraseIdx j:=by
   show aQ T.K q _ q=_
   rw[cW,erase_filter hj (h.Bt q hq) ej]
  have hlen:((T.K q).eraseIdx j).length=(T.K q).length-1:=by rw[List.length_eraseIdx,if_pos hj]
  refine cb.in_ hD (F:=F2) ?_
  have kQ:(A2++B2).map (fI (T.del q c) tk ct fr mn)=(A2++B2).map (fI T tk ct fr mn):=List.map_congr_left λr hr=>by
   have TG:r≠q:=by
    rintro rfl
    obtain⟨n1,n2,n3⟩:=List.nodup_append.1 Zy
    rcases List.mem_append.1 hr with h|h
    ·exact n3 r h r (by simp) rfl
    ·exact(List.nodup_cons.1 n2).1 h
   exact cb.Ni (T:=T) (T':=T.del q c) rfl rfl rfl (aX TG) rfl (λ_ _=>rfl) rfl rfl rfl rfl
  rw[kQ]
  have ng:(gK (T.del q c) tk ct fr mn q F2).pv=dN (gK T tk ct fr mn q F2).pv 7 [.raw (.slice (T.S q).1 ((T.K q).length-1) (T.S q).2)]:=by
   unfold gK oc.pv
   rw[ZW,hlen];rfl
  have hV:IT (T.del q c) q=iW 131 1 (.raw (.slice (T.S q).1 ((T.K q).length-1) (T.S q).2)) (((T.K q).eraseIdx j).map λc=>[pP (T.B (q++[c])) 0]):=by
   unfold IT jk
   rw[ZW,hlen];rfl
  rw[ng,hV]
  exact h6.swap
 obtain⟨v1,v2,v3,v4⟩:=iW.cut h4 (λ_=>rfl) hj (by omega) (K:=λs sn sc u=>stM (T.B q) 7 [.raw (.slice s sn sc)] u K) key
 exact⟨v1,v3,v4⟩
theorem Il(l:Path)(sM:l.length<=1000){T:Tree}{ms:dL}(hC:kV Bd T es ms tk ct)(hlD:l∈T.D)(hN:Wb T (λr=>r <+: l))(aeT:x.root=T.B [])(fl:Fl){L:List aY}{μ:Mem}(hO:Ow (an n x es ms ids::cb T tk ct fr mn::L) μ){K:Kq}
  (hk:∀T' dd μ',kV Bd T' es dd tk ct->Wb T' (λ_=>False)->T'.B=T.B->T'.E=T.E->(∀r∈T'.D,r∈T.D)->(∀r∈T.D,0<T.E r->r∈T'.D)->Ow (an n x es dd ids::cb T' tk ct fr mn::L) μ'->K (.aD []) μ'):
  aa prog 85 [pP n 0,.list 1 fl ((dE T.B l).map λb=>[pP b 0])] μ K:=by
 refine An.c ?_
 rw[show IntKind.wrap .i64 (((((dE T.B l).map λb=>[pP b 0]).length:Nat):Int)-1)=((l.length:Nat):Int)-1 from by rw[List.length_map,dC,az (by omega) (by omega)]]
 refine ak.UJ l.length (λm u=>∃T' dd,(kV Bd T' es dd tk ct/\l.take m∈T'.D/\Wb T' (λr=>r <+: l.take m)/\T'.B=T.B/\T'.E=T.E/\(∀r∈T'.D,r∈T.D)/\(∀r∈T.D,0<T.E r->r∈T'.D))/\Ow (an n x es dd ids::cb T' tk ct fr mn::L) u) ⟨T,ms,⟨hC,by rw[List.take_length];exact hlD,by rw[List.take_length];exact hN,rfl,rfl,λ_ h=>h,λ_ h _=>h⟩,hO⟩ ?_ ?_
 ·rintro k u next ED ⟨T',dd,⟨BY,RL,hN',hB,hE,eZ,oV⟩,h2⟩ ar
  have ep:l.take (k+1)=l.take k++[l[k]]:=by rw[List.take_add_one,List.getElem?_eq_getElem ED];rfl
  generalize hq:l.take k=q at*
  generalize hc:l[k]=c at*
  rw[ep]at RL hN'
  have rR:=BY.tree.up _ _ RL
  have eT:((dE T.B l).map λb=>[pP b 0])[Int.toNat (k:Int)]?=some [pP (T'.B (q++[c])) 0]:=by rw[sg T.B l ED,ep,hB]
  obtain⟨F,hF⟩:=cb.rd RL (Ow.swap h2)
  have done:(T'.K (q++[c])≠[]\/0<T'.E (q++[c]))->K (.aD []) u:=λhor=>by
   refine hk T' dd u BY (λr hr AP _=>?_) hB hE eZ oV h2
   by_cases cZ:r <+: q++[c]
   ·by_cases e:r=q++[c]
    ·rw[e];exact hor
    ·left
     obtain⟨s,hs⟩:=cZ
     cases s with
     |nil=>rw[List.append_nil]at hs;exact absurd hs e
     |cons d s=>
      have:r++[d]∈T'.D:=BY.tree.xR RL ⟨s,by rw[<- hs];simp⟩
      have:=(BY.tree.kids r hr d).2 this
      intro e0;rw[e0]at this;cases this
   ·exact hN' r hr AP cZ
  refine ab.t (by simp) ⟨by omega,_,eT,_,rfl,?_⟩
  dsimp only[nP,nn,aF]
  refine⟨_,_,_,aE hF (by simp),ab.mk (λh=>done (.inl λe=>?_)) (λEE=>⟨_,aE hF (by simp),ab.mk (λh=>done (.inr ?_)) (λRU=>?_)⟩)⟩
  ·have h9:0<(T'.K (q++[c])).length:=by simpa using h
   rw[e]at h9;simp at h9
  ·dsimp only[gK]at h;simpa using h
  ·have XR:T'.K (q++[c])=[]:=by
    dsimp only[gK]at EE
    have:(T'.K (q++[c])).length=0:=by simpa using EE
    exact List.eq_nil_of_length_eq_zero this
   have anO:T'.E (q++[c])=0:=by
    dsimp only[gK]at RU
    have:¬(0:Int)<((T'.E (q++[c]):Nat):Int):=by simpa using RU
    omega
   refine⟨_,aE (an.qz (x:=x) (es:=es) (ms:=dd) (ids:=ids) h2 (by simp)) (by simp),?_⟩
   refine⟨λs u'=>s=some ⟨T'.B q,0,none⟩/\u'=u,ab.mk (λh=>?_) (λh=>⟨?_,rfl⟩),?_⟩
   ·have jw:0<k:=by simpa using h
    obtain⟨k',rfl⟩:∃k',k=k'+1:=⟨k-1,by omega⟩
    have hw:IntKind.wrap .i64 (((k'+1:Nat):Int)-1)=(k':Int):=by rw[az (by omega) (by omega)];omega
    rw[hw]
    refine⟨by omega,_,sg T.B l (by omega),_,rfl,?_,rfl⟩
    rw[hq,hB]
   ·have jw:k=0:=by
     have:¬0<k:=by simpa using h
     omega
    subst jw
    have:q=[]:=by rw[<- hq];rfl
    show some (⟨x.root,0,none⟩:Addr)=_
    rw[this,hB,aeT]
   ·rintro s u' ⟨rfl,rfl⟩
    refine⟨λ_ u2=>∃F,Ow (an n x es dd ids::Pt (T'.B (q++[c])) 156 (gK T' tk ct fr mn (q++[c]) F).pv::cb (T'.del q c) tk ct fr mn::L) u2,?_,?_⟩
    ·dsimp only[nP,nn,aF]
     obtain⟨Fq,hFq⟩:=cb.rd rR (Ow.swap h2)
     have hkk:=BY.tree.kl rR
     have ui:=BY.tree.Bg
     refine⟨_,_,_,aE hFq (by simp),?_⟩
     dsimp only[gK]
     refine ak.each (n:=(T'.K q).length) (by omega) (λj u2=>u2=u'/\c∉(T'.K q).take j) ⟨rfl,by simp⟩ ?_ ?_
     ·rintro j u2 qc hj ⟨rfl,cm⟩ gq
      obtain⟨b,hb,fB⟩:=cb.Zn rR (Ow.swap h2) hj
      have po:=BY.tree.HE rR hj
      obtain⟨F2,DD⟩:=cb.rd po (Ow.swap h2)
      rw[hb]
      refine ab.t (by simpa using hj) ⟨by omega,by simpa using hj,_,by simpa using fB,?_⟩
      refine⟨⟨_,_,DD,by simp⟩,⟨_,_,hF,by simp⟩,?_⟩
      dsimp only
      by_cases ed:(T'.K q)[j]=c
      ·rw[ed,Qi]
       refine ab.t rfl ?_
       obtain⟨v1,v2,v3⟩:=cb.ab8 BY.tree RL (Ow.swap h2) hj ed (K:=λu3=>∃F,Ow (an n x es dd ids::Pt (T'.B (q++[c])) 156 (gK T' tk ct fr mn (q++[c]) F).pv::cb (T'.del q c) tk ct fr mn::L) u3) (λF μ' h=>⟨F,Ow.ord [2,1,0] h⟩)
       have hw:IntKind.wrap .i64 ((j:Int)+1)=((j+1:Nat):Int):=by rw[az (by omega) (by omega)];omega
       refine⟨_,_,_,aE hFq (by simp),?_⟩
       dsimp only[gK]
       refine⟨v1,by omega,by omega,by omega,by omega,_,_,_,aE hFq (by simp),?_⟩
       dsimp only[gK]
       rw[hw]
       refine⟨v1,by omega,by omega,by omega,by omega,?_⟩
       simp only[Int.toNat_natCast,Int.toNat_zero,Nat.sub_zero]
       exact v3
      ·rw[Xs λe=>ed ?_]
       ·refine ab.f rfl (gq _ ⟨rfl,λhm=>?_⟩)
        rw[List.take_add_one,List.getElem?_eq_getElem hj,List.mem_append]at hm
        rcases hm with hm|hm
        ·exact cm hm
        ·simp only[Option.toList_some,List.mem_singleton]at hm
         exact ed hm.symm
       ·have:=cb.inj po RL (Ow.swap h2) e
        simpa using this
     ·rintro u2 qc ⟨rfl,cm⟩
      rw[List.take_length]at cm
      exact absurd ((BY.tree.kids q rR c).2 RL) cm
    ·rintro _ u2 ⟨F2,h3⟩
     have nR:=BY.tree.ml q c RL
     have gD:=(BY.tree.LB RL).2
     refine Pf (gK T' tk ct fr mn (q++[c]) F2) (l:=(T'.del q c).D.flatMap T'.M) (BY.use.perm (UK BY.tree RL)) (by show(T'.M (q++[c])).length<=1000;omega) h3 λLC IW hK2 u3 h4=>⟨rfl,?_⟩
     rw[az (by omega) (by omega)]
     refine ar u3 ⟨T'.del q c,LC,⟨BY.del RL XR IW hK2,List.mem_filter.2 ⟨rR,?_⟩,λr hr AP hW=>?_,hB,hE,λr hr=>eZ r (List.mem_filter.1 hr).1,λr hr he=>List.mem_filter.2 ⟨oV r hr he,?_⟩⟩,?_⟩
     ·simp
     ·obtain⟨OH,BV⟩:=List.mem_filter.1 hr
      have BV:r≠q++[c]:=by simpa using BV
      have TG:r≠q:=by rintro rfl;exact hW (List.prefix_refl _)
      show aQ T'.K q _ r≠[]\/_
      rw[aX TG]
      refine hN' r OH AP λcZ=>?_
      rcases List.prefix_concat_iff.1 cZ with h|h
      ·exact BV h
      ·exact hW h
     ·simp only[decide_eq_true_eq]
      rintro rfl
      rw[<- hE]at he
      omega
     ·exact h4.tail λ_ h=>h.drop
 ·rintro u next ⟨T',dd,⟨BY,RL,hN',hB,hE,eZ,oV⟩,h2⟩
  refine ab.f (by simp) (hk T' dd u BY (λr hr AP _=>hN' r hr AP λhp=>AP ?_) hB hE eZ oV h2)
  rw[List.take_zero]at hp
  exact List.prefix_nil.1 hp
end
theorem Wz{v:ByteArray}(h:kL v=true):v≠⟨#[]⟩:=by
 rintro rfl
 have:kL ⟨#[]⟩=false:=by kernel_rfl
 rw[this]at h;cases h
open K6
theorem CC{p:Prod}(h:(dF p).2=0):∀x∈dI p.conds 0 0,bQ x.2.2 x.2.1=0:=by
 unfold dF at h
 cases hw:kL p.name with
 |false=>rw[hw]at h;simp at h
 |true=>
  rw[hw]at h
  simp only[Bool.not_true,cond_false]at h
  cases hb:(decide (aj p.conds<1)||(decide (16<aj p.conds)||(decide (p.bp.length<1)||decide (16<p.bp.length))))with
  |true=>rw[hb]at h;simp at h
  |false=>
   rw[hb]at h
   simp only[cond_false]at h
   refine Bf ?_
   unfold nA at h
   split at h
   ·rename_i a e he
    exact absurd h (tQ he)
   ·assumption
theorem UO{c:ae}{d:Int}(h:bQ c d=0)(hk:c.kind=1\/c.kind=2):c.id≠⟨#[]⟩:=by
 unfold bQ at h
 have h3:(c.kind == 3)=false:=by rcases hk with e|e<;>rw[e]<;>rfl
 have mw:((c.kind == 1)||(c.kind == 2))=true:=by rcases hk with e|e<;>rw[e]<;>rfl
 rw[h3,mw]at h
 simp only[cond_true,cond_false]at h
 cases hb:(decide (0<c.conds.length)||(!kL c.id||decide (c.attr.length=0)))with
 |true=>rw[hb]at h;simp at h
 |false=>
  simp only[Bool.or_eq_false_iff,Bool.not_eq_false']at hb
  exact Wz hb.2.1
mutual
theorem S_:∀(c:ae) (a d:Nat),cr c->(∀x∈iN c a d,bQ x.2.2 x.2.1=0)->vC c
 | .mk k g i at_ v ac cs,a,d,hl,h=>by
   have h0:=h (a,d,.mk k g i at_ v ac cs) (by simp[iN])
   exact⟨hl,λhk=>UO h0 hk,CT cs (a+1) (d+1) ((bu _).1 hl).2.2.2.2.2 λx hx=>h x (by simp[iN,hx])⟩
theorem CT:∀(l:List ae) (a d:Nat),bD l->(∀x∈dI l a d,bQ x.2.2 x.2.1=0)->ud l
 |[],_,_,_,_=>trivial
 |c::cs,a,d,hl,h=>⟨S_ c a d hl.1 λx hx=>h x (by simp[dI,hx]),CT cs (a+aR c) d hl.2 λx hx=>h x (by simp[dI,hx])⟩
end
structure l_(p:Prod):Prop where
 chk:(cg p).2.1=0
 qf:bD p.conds
theorem l_.facts{p:Prod}(h:l_ p):ud p.conds/\RD p.conds/\1<=aj p.conds/\aj p.conds<=16/\p.bp.length<=16/\p.conds≠[]/\p.conds.length<=16:=by
 have h1:=(GI h.chk).1
 obtain⟨s1,s2,_,s3,s4⟩:=zh h1
 have:=ch p.conds
 exact⟨CT _ 0 0 h.qf (CC h1),s4,s1,s2,s3,λe=>by rw[e]at s1;simp[aj]at s1,by omega⟩
def cM(q:Prod):ByteArray:=q.name
def fZ(B:Path->Nat)(q:Prod):RP.El:=(q.name,⟨q,dE B q.conds⟩)
structure pd(x:NC)(T:Tree)(es:List af)(ms:dL)(ids:pt)(tk:Path->List cf)(ct:Path->List Nat)(ps:List Prod)(w:Nat)(W:Path->Prop):Prop where
 core:kV x.T T es ms tk ct
 uf:Wb T W
 ids:kJ es ids
 root:x.root=T.B []
 tb:1<=x.T/\x.T<=1024
 mb:1<=x.M/\x.M<=1024
 si:ca aI cM ps
 rE:∀q∈ps,l_ q
 pD:∀q∈ps,q.conds∈T.D
 ends:∀p∈T.D,T.E p=(ps.filter λq=>decide (q.conds=p)).length
 tags:∀e∈es,1<=e.tag/\e.tag<9223372036854775808
 xt:ps.length<=w
 dl:T.D.length<=1+16*w
def bK(es:List af)(ps:List Prod):Nat:=(ps.map λq=>(au es q.conds).length).sum
@[reducible] def dc(n:Nat)(x:NC)(es:List af)(ms:dL)(ids:pt)(T:Tree)(tk:Path->List cf)(ct:Path->List Nat)(fr:Path->List cf)(mn:Path->List Nat)(ps:List Prod)(L:List aY):List aY:=
 an n x es ms ids::cb T tk ct fr mn::RP.cU x.pr (ps.map (fZ T.B))::RT.At x.el es::L
def bR(n:Nat)(x:NC)(es:List af)(ps:List Prod)(w:Nat):aY:=λμ=>∃T ms ids tk ct fr mn,(pd x T es ms ids tk ct ps w (λ_=>False)/\((bK es ps:Nat):Int)<=x.M)/\Ow (dc n x es ms ids T tk ct fr mn ps []) μ
theorem bR.open_{n:Nat}{x:NC}{es:List af}{ps:List Prod}{w:Nat}{L:List aY}{μ:Mem}(h:Ow (bR n x es ps w::L) μ):∃T ms ids tk ct fr mn,(pd x T es ms ids tk ct ps w (λ_=>False)/\((bK es ps:Nat):Int)<=x.M)/\Ow (dc n x es ms ids T tk ct fr mn ps L) μ:=by
 obtain⟨T,h⟩:=Ow.ex h
 obtain⟨ms,h⟩:=Ow.ex h
 obtain⟨ids,h⟩:=Ow.ex h
 obtain⟨tk,h⟩:=Ow.ex h
 obtain⟨ct,h⟩:=Ow.ex h
 obtain⟨fr,h⟩:=Ow.ex h
 obtain⟨mn,h⟩:=Ow.ex h
 obtain⟨hp,h⟩:=Ow.and h
 exact⟨T,ms,ids,tk,ct,fr,mn,hp,h.nest⟩
theorem bR.shut{n:Nat}{x:NC}{es:List af}{ps:List Prod}{w:Nat}{T:Tree}{ms:dL}{ids:pt}{tk:Path->List cf}{ct:Path->List Nat}{fr:Path->List cf}{mn:Path->List Nat}{L:List aY}{μ:Mem}(hp:pd x T es ms ids tk ct ps w (λ_=>False))(hs:((bK es ps:Nat):Int)<=x.M)(h:Ow (dc n x es ms ids T tk ct fr mn ps L) μ):Ow (bR n x es ps w::L) μ:=
 (Ow.pack (L1:=dc n x es ms ids T tk ct fr mn ps []) h).imp λ_ hν=>⟨T,ms,ids,tk,ct,fr,mn,⟨hp,hs⟩,hν⟩
section
variable {n:Nat} {x:NC} {es:List af} {ms:dL} {ids:pt} {T:Tree} {tk:Path->List cf} {ct:Path->List Nat} {fr:Path->List cf} {mn:Path->List Nat}
theorem tC(B:Path->Nat){l:Path}(hl:l≠[])(rS:l.length<=1000):((dE B l).map λb=>[pP b 0])[Int.toNat (IntKind.wrap .i64 (((((dE B l).map λb=>[pP b 0]).length:Nat):Int)-1))]?=some [pP (B l) 0]/\0<=IntKind.wrap .i64 (((((dE B l).map λb=>[pP b 0]).length:Nat):Int)-1):=by
 have hp:0<l.length:=List.length_pos_iff.2 hl
 have e:IntKind.wrap .i64 (((((dE B l).map λb=>[pP b 0]).length:Nat):Int)-1)=((l.length-1:Nat):Int):=by
  rw[List.length_map,dC,az (by omega) (by omega)];omega
 rw[e,sg B l (by omega)]
 refine⟨?_,by omega⟩
 rw[show l.length-1+1=l.length from by omega,List.take_length]
theorem L_{α:Type}{f:α->Nat}{b:Nat}:∀{l:List α},(∀x∈l,f x<=b)->(l.map f).sum<=b*l.length
 |[],_=>by simp
 |x::l,h=>by
  have h1:=h x (by simp)
  have h2:=L_ (l:=l) λy hy=>h y (by simp[hy])
  simp only[List.map_cons,List.sum_cons,List.length_cons]
  rw[Nat.mul_add];omega
theorem akb{ps:List Prod}(hlen:ps.length<=10000)(hD:∀q∈ps,q.conds∈T.D/\q.conds≠[]/\q.conds.length<=1000)(hle:∀q∈ps,(tk q.conds).length<=1025){L:List aY}{μ:Mem}(hO:Ow (an n x es ms ids::cb T tk ct fr mn::RP.cU x.pr (ps.map (fZ T.B))::L) μ){K:Kq}
  (hk:∀μ',Ow (an n x es ms ids::cb T tk ct fr mn::RP.cU x.pr (ps.map (fZ T.B))::L) μ'->K (pI (((ps.map λq=>(tk q.conds).length).sum:Nat):Int)) μ'):aa prog 107 [pP n 0] μ K:=by
 refine Eu.c λb3 DB=>?_
 refine(hO.new 3 [pI 0] DB).st 0 rfl (by simp) λu h=>?_
 refine⟨_,aE (an.qz (x:=x) (es:=es) (ms:=ms) (ids:=ids) h (by simp)) (by simp),(RP.o_ x.pr).call ⟨_,_,_,rfl,?_⟩⟩
 have nR:((ps.map (fZ T.B)).map λy=>[RP.db y.1,RP.gI y.2]).length=ps.length:=by simp
 refine bk.own (RP.fG x.pr (ps.map (fZ T.B)) (by simp;omega)) (Ow.at 3 rfl h)
  (λk u=>Ow (an n x es ms ids::cb T tk ct fr mn::RP.cU x.pr (ps.map (fZ T.B))::Pt b3 3 [pI ((((ps.take k).map λq=>(tk q.conds).length).sum:Nat):Int)]::L) u) (λ_ _=>False) (λk=>fJ.own _) (λ_ _ _ _ h=>h.elim) (λμ' h'=>?_) ?_ ?_ (λ_ _ h=>h.elim)
 ·have h2:Ow (RP.cU x.pr (ps.map (fZ T.B))::Pt b3 3 [pI 0]::an n x es ms ids::cb T tk ct fr mn::L) μ':=h'
  exact Ow.ord [2,2,0,0] h2
 ·rintro k fH u2 R h2 bU _
  have bW:k<ps.length:=by simpa using fH
  have hm:=List.getElem_mem bW
  obtain⟨d1,d2,d3⟩:=hD _ hm
  obtain⟨F,hF⟩:=cb.rd d1 (Ow.swap h2)
  obtain⟨w1,w2⟩:=tC T.B d2 d3
  rw[List.getElem_map,List.getElem_map]
  refine⟨_,_,_,_,_,_,_,_,rfl,_,h2.rd 3 rfl (by simp),w2,_,w1,_,rfl,?_⟩
  dsimp only[nP,nn,aF]
  refine⟨_,_,aE hF (by simp),?_⟩
  refine h2.st 3 rfl (by simp) λu3 h3=>bU _ ?_
  have hs:((ps.take (k+1)).map λq=>(tk q.conds).length).sum=((ps.take k).map λq=>(tk q.conds).length).sum+(tk ps[k].conds).length:=by
   rw[dT bW,List.sum_append];simp
  have h4:=hle _ hm
  have h5:=L_ (l:=ps.take k) (f:=λq=>(tk q.conds).length) (b:=1025) λq hq=>hle q (List.mem_of_mem_take hq)
  rw[List.length_take]at h5
  have e:dN [pI ((((ps.take k).map λq=>(tk q.conds).length).sum:Nat):Int)] 0 [pI (IntKind.wrap .i64 (((((ps.take k).map λq=>(tk q.conds).length).sum:Nat):Int)+((((tk ps[k].conds).map cf.pv).length:Nat):Int)))]=[pI ((((ps.take (k+1)).map λq=>(tk q.conds).length).sum:Nat):Int)]:=by
   rw[hs,List.length_map,az (by omega) (by omega)]
   show[pI _]=_
   congr 2
  rw[e]at h3
  exact h3
 ·intro u2 h2
  rw[nR,List.take_length]at h2
  dsimp only[PK]
  exact⟨_,h2.rd 3 rfl (by simp),hk u2 (h2.tail λ_ h=>h.tail λ_ h=>h.tail λ_ h=>h.drop)⟩
end
theorem ak.UI{α β γ:Type}{body:(α×β×Int->γ->Prop)->α×β×Int->γ->Prop}{x:α}{y:β}{u:γ}{n:Nat}(hn:n<9223372036854775808)(I:Nat->α->β->γ->Prop)(h0:I 0 x y u)
  (gG:∀(k:Nat) (x:α) (y:β) (u:γ) (next:α×β×Int->γ->Prop),k<n->I k x y u->(∀x' y' u',I (k+1) x' y' u'->next (x',y',IntKind.wrap .i64 ((k:Int)+1)) u')->body next (x,y,(k:Int)) u) (gM:∀(x:α) (y:β) (u:γ) (next:α×β×Int->γ->Prop),I n x y u->body next (x,y,(n:Int)) u):ak body (x,y,0) u:=by
 refine⟨λm s u=>∃k:Nat,s.2.2=(k:Int)/\k<=n/\I k s.1 s.2.1 u/\m=n-k,⟨n-0,0,rfl,Nat.zero_le _,h0,rfl⟩,?_⟩
 rintro _ ⟨x,y,z⟩ u ⟨k,hz,hk,hI,rfl⟩
 have hz:z=(k:Int):=hz
 subst hz
 by_cases cz:k<n
 ·refine gG k x y u _ cz hI λx' y' u' eU=>?_
  rw[az (by omega) (by omega)]
  exact⟨n-(k+1),by omega,k+1,by show(k:Int)+1=((k+1:Nat):Int);omega,by omega,eU,rfl⟩
 ·have:k=n:=by omega
  subst this
  exact gM x y u _ hI
def Tree.add(T:Tree)(q:Path)(c:ae)(xb:Nat)(aG:List Int)(s:Option Addr×Nat):Tree:=
 ⟨T.D++[q++[c]],aQ T.B (q++[c]) xb,aQ T.M (q++[c]) aG,aQ T.E (q++[c]) 0,aQ (aQ T.K q (T.K q++[c])) (q++[c]) [],aQ (aQ T.S q s) (q++[c]) (none,0)⟩
section
variable {T:Tree} {q:Path} {c:ae} {xb:Nat} {aG:List Int} {s:Option Addr×Nat}
theorem oB.add(h:oB T)(hq:q∈T.D)(hn:q++[c]∉T.D)(hl:q.length<16)(hc:vC c)(hs:aj (q++[c])<=100)(hm:aG.length=aR c)(hf:T.D.length+1<=5000)(vY:∀j∈aG,-1<=j):oB (T.add q c xb aG s):=by
 have Fa:∀r,r∈(T.add q c xb aG s).D↔r∈T.D\/r=q++[c]:=λr=>by unfold Tree.add;simp
 have aT:∀r∈T.D,r≠q++[c]:=λr hr e=>hn (e▸hr)
 have hKo:∀r∈T.D,r≠q->(T.add q c xb aG s).K r=T.K r:=λr hr TG=>by
  show aQ (aQ T.K q _) (q++[c]) [] r=_
  rw[aX (aT r hr),aX TG]
 have ZW:(T.add q c xb aG s).K q=T.K q++[c]:=by
  show aQ (aQ T.K q _) (q++[c]) [] q=_
  rw[aX (aT q hq),cW]
 have hKn:(T.add q c xb aG s).K (q++[c])=[]:=cW _ _ _
 refine⟨?_,(Fa _).2 (.inl h.root),λp hp d=>?_,λp hp=>?_,λp d hd=>?_,λp hp=>?_,λp hp=>?_,λp hp=>?_,λp d hd=>?_,?_,?_,λp hp=>?_⟩
 ·refine List.nodup_append.2 ⟨h.nodup,by simp,λa ha b hb e=>?_⟩
  simp only[List.mem_singleton]at hb
  subst e hb
  exact hn ha
 ·rw[Fa]
  rcases(Fa p).1 hp with hp|rfl
  ·by_cases e:p=q
   ·subst e
    rw[ZW,List.mem_append,h.kids p hq d]
    simp only[List.mem_singleton]
    constructor
    ·rintro(h1|rfl)
     ·exact .inl h1
     ·exact .inr rfl
    ·rintro(h1|h1)
     ·exact .inl h1
     ·exact .inr (by simpa using h1)
   ·rw[hKo p hp e,h.kids p hp d]
    refine⟨.inl,λh1=>h1.resolve_right λe2=>e (List.append_inj' e2 rfl).1⟩
  ·rw[hKn]
   refine⟨λh1=>(by cases h1),?_⟩
   rintro(h1|h1)
   ·exact absurd (h.up _ _ h1) hn
   ·have:=congrArg List.length h1;simp at this
 ·rcases(Fa p).1 hp with hp|rfl
  ·by_cases e:p=q
   ·subst e
    rw[ZW]
    refine List.nodup_append.2 ⟨h.Bt p hq,by simp,λa ha b hb e=>?_⟩
    simp only[List.mem_singleton]at hb
    subst e hb
    exact hn ((h.kids _ hq _).1 ha)
   ·rw[hKo p hp e];exact h.Bt p hp
  ·rw[hKn];exact List.nodup_nil
 ·rcases(Fa _).1 hd with hd|hd
  ·exact(Fa _).2 (.inl (h.up _ _ hd))
  ·obtain⟨rfl,_⟩:=List.append_inj' hd rfl
   exact(Fa _).2 (.inl hq)
 ·rcases(Fa p).1 hp with hp|rfl
  ·exact h.len p hp
  ·simp;omega
 ·rcases(Fa p).1 hp with hp|rfl
  ·exact h.okk p hp
  ·refine jX.2 λd hd=>?_
   rcases List.mem_append.1 hd with hd|hd
   ·exact jX.1 (h.okk q hq) d hd
   ·simp only[List.mem_singleton]at hd;subst hd;exact hc
 ·rcases(Fa p).1 hp with hp|rfl
  ·exact h.size p hp
  ·exact hs
 ·show(aQ T.M (q++[c]) aG (p++[d])).length=_
  rcases(Fa _).1 hd with hd|hd
  ·rw[aX (aT _ hd)];exact h.ml p d hd
  ·rw[hd,cW]
   obtain⟨_,e⟩:=List.append_inj' hd rfl
   simp only[List.cons.injEq,and_true]at e
   rw[e];exact hm
 ·show aQ T.M (q++[c]) aG []=[]
  rw[aX (aT _ h.root)];exact h.m0
 ·show(T.D++[q++[c]]).length<=5000
  rw[List.length_append,List.length_singleton];exact hf
 ·show ∀j∈aQ T.M (q++[c]) aG p,-1<=j
  rcases(Fa p).1 hp with hp|rfl
  ·rw[aX (aT p hp)];exact h.mge p hp
  ·rw[cW];exact vY
theorem Uz{M:Path->List Int}{p:Path}{v:List Int}{D:List Path}(h:p∉D):D.flatMap (aQ M p v)=D.flatMap M:=by
 induction D with
 |nil=>rfl
 |cons r D ih=>
  rw[List.flatMap_cons,List.flatMap_cons,ih λh'=>h (by simp[h']),aX λe=>h (by simp[e])]
theorem kV.add{B:Int}{es:List af}{ms dd:dL}{tk:Path->List cf}{ct:Path->List Nat}(h:kV B T es ms tk ct)(hq:q∈T.D)(hn:q++[c]∉T.D)(hl:q.length<16)(hc:vC c)(hs:aj (q++[c])<=100)(hm:aG.length=aR c)(hf:T.D.length+1<=5000)(hu:gB es dd (aG++T.D.flatMap T.M))(hk:jM ms dd)(vZ:lY dd aG 0 c)(hle:∀j,((dZ es c (au es q) j:Nat):Int)<=B)(vY:∀j∈aG,-1<=j):
  kV B (T.add q c xb aG s) es dd (aQ tk (q++[c]) (stepT es c (au es q))) (aQ ct (q++[c]) (je es c (au es q))):=by
 have Fa:∀r,r∈(T.add q c xb aG s).D↔r∈T.D\/r=q++[c]:=λr=>by unfold Tree.add;simp
 have aT:∀r∈T.D,r≠q++[c]:=λr hr e=>hn (e▸hr)
 have gG:∀{p:Path} {d:ae},p++[d]=q++[c]->p=q/\d=c:=λe=>by
  obtain⟨e1,e2⟩:=List.append_inj' e rfl
  simp only[List.cons.injEq,and_true]at e2
  exact⟨e1,e2⟩
 refine⟨h.tree.add hq hn hl hc hs hm hf vY,?_,λp d hd=>?_,⟨λp hp=>?_,λp d hd=>?_,λp d hd=>?_⟩⟩
 ·refine hu.perm ?_
  show(aG++T.D.flatMap T.M).Perm ((T.D++[q++[c]]).flatMap (aQ T.M (q++[c]) aG))
  rw[List.flatMap_append,Uz hn]
  simpa using List.perm_append_comm
 ·show lY dd (aQ T.M (q++[c]) aG (p++[d])) 0 d
  rcases(Fa _).1 hd with hd|hd
  ·rw[aX (aT _ hd)];exact DJ hk d 0 (h.fit p d hd)
  ·obtain⟨e1,e2⟩:=gG hd
   rw[hd,cW,e2];exact vZ
 ·rcases(Fa p).1 hp with hp|rfl
  ·rw[aX (aT p hp)];exact h.dH.tok p hp
  ·rw[cW,cV]
 ·rcases(Fa _).1 hd with hd|hd
  ·rw[aX (aT _ hd)];exact h.dH.EH p d hd
  ·obtain⟨e1,e2⟩:=gG hd
   rw[hd,cW,e1,e2]
 ·rcases(Fa _).1 hd with hd|hd
  ·exact h.dH.le p d hd
  ·obtain⟨e1,e2⟩:=gG hd
   rw[e1,e2];exact hle
def uZ(c:ae)(f:Fl)(aG:List Int)(ft:Fl)(ts:List cf)(fk:Fl)(cn:List Nat):oc:=⟨c,.sh,.sh,.sh,none,0,0,f,aG,ft,ts,fk,cn,0,.nil,[],.nil,[]⟩
theorem cb.acF{tk:Path->List cf}{ct:Path->List Nat}{fr:Path->List cf}{mn:Path->List Nat}(h:oB T)(hq:q∈T.D)(hn:q++[c]∉T.D){f ft fk:Fl}{ts:List cf}{cn:List Nat}{L:List aY}{μ:Mem}(hO:Ow (cb T tk ct fr mn::Pt xb 156 (uZ c f aG ft ts fk cn).pv::L) μ){K:Mem->Prop}
  (hK:∀s μ',Ow (cb (T.add q c xb aG s) (aQ tk (q++[c]) ts) (aQ ct (q++[c]) cn) (aQ fr (q++[c]) []) (aQ mn (q++[c]) [])::L) μ'->K μ'):
  lZ 1 8 131 (T.S q).1 (T.K q).length (T.S q).2 (.list 1 .nr [[pP xb 0]]) μ (λa n' c' u=>stM (T.B q) 7 [.raw (.slice a n' c')] u K):=by
 have ED:=h.kl hq
 have ui:=h.Bg
 obtain⟨A,B,F,e,h1⟩:=cb.out hq hO
 have h2:Ow (IT T q::Pt (T.B q) 156 (gK T tk ct fr mn q F).pv::Ow ((A++B).map (fI T tk ct fr mn))::Pt xb 156 (uZ c f aG ft ts fk cn).pv::L) μ:=h1.swap
 have EC:(jk T q).length=(T.K q).length:=by simp
 obtain⟨a,c0,ep,q_⟩:=iW.app h2 (λr hr=>by obtain⟨d,_,rfl⟩:=List.mem_map.1 hr;rfl)
 obtain⟨e1,_,e3⟩:(T.S q).1=a/\(T.K q).length=(jk T q).length/\(T.S q).2=c0:=by
  simp only[PV.raw.injEq,Value.slice.injEq]at ep;exact ep
 rw[<- e1,EC,<- e3]at q_
 refine q_ [pP xb 0] 8 (λa n' c' u=>stM (T.B q) 7 [.raw (.slice a n' c')] u K) rfl rfl (by omega) (by omega) λb' c' μ2 h3=>?_
 refine h3.st 1 rfl (by simp) λu h4=>hK (some ⟨b',0,none⟩,c') u ?_
 have aT:∀r∈T.D,r≠q++[c]:=λr hr e=>hn (e▸hr)
 have Bv:(A++q::B).Nodup:=by rw[<- e];exact h.nodup
 have TG:∀r∈A++B,r∈T.D/\r≠q:=λr hr=>by
  obtain⟨n1,n2,n3⟩:=List.nodup_append.1 Bv
  refine⟨by rw[e];rcases List.mem_append.1 hr with h|h<;>simp[h],?_⟩
  rintro rfl
  rcases List.mem_append.1 hr with h|h
  ·exact n3 r h r (by simp) rfl
  ·exact(List.nodup_cons.1 n2).1 h
 generalize hs:((some ⟨b',0,none⟩,c'):Option Addr×Nat)=s
 have MN:s.1=some ⟨b',0,none⟩:=by rw[<- hs]
 have Du:s.2=c':=by rw[<- hs]
 generalize Kv:T.add q c xb aG s=T'
 have hBo:∀r,r≠q++[c]->T'.B r=T.B r:=λr hr=>by rw[<- Kv];exact aX hr
 have hold:(A++B).map (fI T' (aQ tk (q++[c]) ts) (aQ ct (q++[c]) cn) (aQ fr (q++[c]) []) (aQ mn (q++[c]) []))=(A++B).map (fI T tk ct fr mn):=List.map_congr_left λr hr=>by
  obtain⟨OH,BV⟩:=TG r hr
  have XM:=aT r OH
  refine cb.Ni (hBo r XM) (by rw[<- Kv];exact aX XM) (by rw[<- Kv];exact aX XM) ?_ ?_ (λd hd=>hBo _ (aT _ ((h.kids r OH d).1 hd))) (aX XM) (aX XM) (aX XM) (aX XM)
  ·rw[<- Kv]
   show aQ (aQ T.K q _) (q++[c]) [] r=_
   rw[aX XM,aX BV]
  ·rw[<- Kv]
   show aQ (aQ T.S q _) (q++[c]) _ r=_
   rw[aX XM,aX BV]
 have Dw:=aT q hq
 have ZW:T'.K q=T.K q++[c]:=by
  rw[<- Kv]
  show aQ (aQ T.K q _) (q++[c]) [] q=_
  rw[aX Dw,cW]
 have hSq:T'.S q=s:=by
  rw[<- Kv]
  show aQ (aQ T.S q _) (q++[c]) _ q=_
  rw[aX Dw,cW]
 have hKn:T'.K (q++[c])=[]:=by rw[<- Kv];exact cW _ _ _
 have hSn:T'.S (q++[c])=(none,0):=by rw[<- Kv];exact cW _ _ _
 have hBn:T'.B (q++[c])=xb:=by rw[<- Kv];exact cW _ _ _
 have hMn:T'.M (q++[c])=aG:=by rw[<- Kv];exact cW _ _ _
 have hEn:T'.E (q++[c])=0:=by rw[<- Kv];exact cW _ _ _
 have hMq:T'.M q=T.M q:=by rw[<- Kv];exact aX Dw
 have hEq:T'.E q=T.E q:=by rw[<- Kv];exact aX Dw
 have aiF:(gK T' (aQ tk (q++[c]) ts) (aQ ct (q++[c]) cn) (aQ fr (q++[c]) []) (aQ mn (q++[c]) []) q F).pv=dN (gK T tk ct fr mn q F).pv 7 [.raw (.slice (some ⟨b',0,none⟩) ((T.K q).length+1) c')]:=by
  unfold gK oc.pv
  rw[ZW,hSq,hMq,hEq,aX Dw,aX Dw,aX Dw,aX Dw,MN,Du,List.length_append]
  rfl
 have hVq:IT T' q=iW 131 1 (.raw (.slice (some ⟨b',0,none⟩) ((T.K q).length+1) c')) (jk T q++[[pP xb 0]]):=by
  unfold IT jk
  rw[ZW,hSq,MN,Du,List.length_append,List.map_append,List.map_cons,List.map_nil,hBn]
  rw[List.map_congr_left λd hd=>by rw[hBo _ (aT _ ((h.kids q hq d).1 hd))]]
  rfl
 have aiG:(gK T' (aQ tk (q++[c]) ts) (aQ ct (q++[c]) cn) (aQ fr (q++[c]) []) (aQ mn (q++[c]) []) (q++[c]) ⟨.sh,.sh,.sh,f,ft,fk,.nil,.nil⟩).pv=(uZ c f aG ft ts fk cn).pv:=by
  unfold gK uZ oc.pv
  simp only[qV,cW,hKn,hSn,hMn,hEn]
  rfl
 have hVn:IT T' (q++[c])=iW 131 1 (.raw (.slice none 0 0)) []:=by
  unfold IT jk
  rw[hKn,hSn];rfl
 have h5:Ow (Pt (T.B q) 156 (dN (gK T tk ct fr mn q F).pv 7 [.raw (.slice (some ⟨b',0,none⟩) ((T.K q).length+1) c')])::iW 131 1 (.raw (.slice (some ⟨b',0,none⟩) ((T.K q).length+1) c')) (jk T q++[[pP xb 0]])::Ow ((A++B).map (fI T tk ct fr mn))::Pt xb 156 (uZ c f aG ft ts fk cn).pv::L) u:=h4.swap
 have h6:Ow (fI T' (aQ tk (q++[c]) ts) (aQ ct (q++[c]) cn) (aQ fr (q++[c]) []) (aQ mn (q++[c]) []) q::Ow ((A++B).map (fI T' (aQ tk (q++[c]) ts) (aQ ct (q++[c]) cn) (aQ fr (q++[c]) []) (aQ mn (q++[c]) [])))::fI T' (aQ tk (q++[c]) ts) (aQ ct (q++[c]) cn) (aQ fr (q++[c]) []) (aQ mn (q++[c]) []) (q++[c])::L) u:=by
  rw[hold]
  have h7:Ow ([Pt (T.B q) 156 (dN (gK T tk ct fr mn q F).pv 7 [.raw (.slice (some ⟨b',0,none⟩) ((T.K q).length+1) c')]),iW 131 1 (.raw (.slice (some ⟨b',0,none⟩) ((T.K q).length+1) c')) (jk T q++[[pP xb 0]])]++(Ow ((A++B).map (fI T tk ct fr mn))::Pt xb 156 (uZ c f aG ft ts fk cn).pv::L)) u:=h5
  have g1:∀ν,Ow [Pt (T.B q) 156 (dN (gK T tk ct fr mn q F).pv 7 [.raw (.slice (some ⟨b',0,none⟩) ((T.K q).length+1) c')]),iW 131 1 (.raw (.slice (some ⟨b',0,none⟩) ((T.K q).length+1) c')) (jk T q++[[pP xb 0]])] ν->fI T' (aQ tk (q++[c]) ts) (aQ ct (q++[c]) cn) (aQ fr (q++[c]) []) (aQ mn (q++[c]) []) q ν:=λν hν=>⟨F,by rw[aiF,hVq,hBo q Dw];exact hν⟩
  have g2:∀ν,Ow [Pt xb 156 (uZ c f aG ft ts fk cn).pv,iW 131 1 (.raw (.slice none 0 0)) []] ν->fI T' (aQ tk (q++[c]) ts) (aQ ct (q++[c]) cn) (aQ fr (q++[c]) []) (aQ mn (q++[c]) []) (q++[c]) ν:=λν hν=>⟨⟨.sh,.sh,.sh,f,ft,fk,.nil,.nil⟩,by rw[aiG,hVn,hBn];exact hν⟩
  refine(h7.pack.imp g1).tail λν hν=>hν.tail λν2 h8=>?_
  have h9:Ow ([Pt xb 156 (uZ c f aG ft ts fk cn).pv,iW 131 1 (.raw (.slice none 0 0)) []]++L) ν2:=h8.tail λ_ h=>iW.nil _ _ h
  exact h9.pack.imp g2
 unfold cb
 have hD:T'.D=A++q::(B++[q++[c]]):=by
  rw[<- Kv]
  show T.D++[q++[c]]=_
  rw[e];simp
 rw[hD,List.map_append,List.map_cons,List.map_append]
 refine Ow.pack ?_
 rw[List.append_assoc]
 refine Ow.Za (L1:=A.map (fI T' (aQ tk (q++[c]) ts) (aQ ct (q++[c]) cn) (aQ fr (q++[c]) []) (aQ mn (q++[c]) []))) (L:=(B.map (fI T' (aQ tk (q++[c]) ts) (aQ ct (q++[c]) cn) (aQ fr (q++[c]) []) (aQ mn (q++[c]) []))++[q++[c]].map (fI T' (aQ tk (q++[c]) ts) (aQ ct (q++[c]) cn) (aQ fr (q++[c]) []) (aQ mn (q++[c]) [])))++L) (h6.tail λν hν=>?_)
 have h7:=hν.nest
 rw[List.map_append,List.append_assoc]at h7
 rw[List.append_assoc]
 exact h7
end
def du(B:Int)(es:List af)(l:List ae):Prop:=∃(i:Nat) (h:i<l.length) (j:Nat),B<((dZ es l[i] (au es (l.take i)) j:Nat):Int)
inductive mj(B M:Int)(es:List af)(ps:List Prod)(p:Prod):Int->List Prod->Prop
 |form (h:(cg p).2.1≠0):mj B M es ps p (cg p).2.1 ps
 |there (h:(cg p).2.1=0) (h2:(aL aI cM p.name ps).isSome):mj B M es ps p 3 ps
 |dH (h:(cg p).2.1=0) (h2:aL aI cM p.name ps=none) (h3:du B es p.conds):mj B M es ps p 25 ps
 |eK (h:(cg p).2.1=0) (h2:aL aI cM p.name ps=none) (h3:¬du B es p.conds) (h4:M<((bK es ps+(au es p.conds).length:Nat):Int)):mj B M es ps p 26 ps
 |ok (h:(cg p).2.1=0) (h2:aL aI cM p.name ps=none) (h3:¬du B es p.conds) (h4:((bK es ps+(au es p.conds).length:Nat):Int)<=M):mj B M es ps p 0 (bc aI cM p ps)
theorem Om{T:Tree}(h:oB T){B':Path->Nat}(hB:∀r∈T.D,B' r=T.B r){l:Path}(hl:l∈T.D):dE B' l=dE T.B l:=by
 unfold dE
 exact List.map_congr_left λi _=>hB _ (h.xR hl (List.take_prefix _ _))
theorem SU{T:Tree}(h:oB T){B':Path->Nat}(hB:∀r∈T.D,B' r=T.B r){ps:List Prod}(hl:∀q∈ps,q.conds∈T.D):ps.map (fZ B')=ps.map (fZ T.B):=
 List.map_congr_left λq hq=>by unfold fZ;rw[Om h hB (hl q hq)]
theorem iL(B:Path->Nat)(s:ByteArray)(ps:List Prod):aL RP.ck RP.key (RP.key (s,RP.z)) (ps.map (fZ B))=(aL aI cM s ps).map (fZ B):=ql
theorem pd.u{x:NC}{T:Tree}{es:List af}{ms:dL}{ids:pt}{tk:Path->List cf}{ct:Path->List Nat}{ps:List Prod}{w:Nat}{W:Path->Prop}(h:pd x T es ms ids tk ct ps w W):ca RP.ck RP.key (ps.map (fZ T.B)):=ca.map h.si
section
variable {n:Nat} {x:NC} {es:List af} {ms:dL} {ids:pt} {T:Tree} {tk:Path->List cf} {ct:Path->List Nat} {fr:Path->List cf} {mn:Path->List Nat} {ps:List Prod} {w:Nat} {W:Path->Prop}
theorem pd.mono(h:pd x T es ms ids tk ct ps w W){w':Nat}(hw:w<=w'){W':Path->Prop}(hW:∀r,W r->W' r):pd x T es ms ids tk ct ps w' W':=
 ⟨h.core,λr h1 h2 h3=>h.uf r h1 h2 λh4=>h3 (hW r h4),h.ids,h.root,h.tb,h.mb,h.si,h.rE,h.pD,h.ends,h.tags,Nat.le_trans h.xt hw,by have:=h.dl;omega⟩
theorem zO(h:pd x T es ms ids tk ct ps w W){q:Prod}(hq:q∈ps):0<T.E q.conds:=by
 rw[h.ends _ (h.pD q hq)]
 exact List.length_pos_of_mem (List.mem_filter.2 ⟨hq,by simp⟩)
theorem pd.Hp(h:pd x T es ms ids tk ct ps w W){T':Tree}{dd:dL}(hC:kV x.T T' es dd tk ct)(hN:Wb T' λ_=>False)(hB:T'.B=T.B)(hE:T'.E=T.E)(eZ:∀r∈T'.D,r∈T.D)(oV:∀r∈T.D,0<T.E r->r∈T'.D):pd x T' es dd ids tk ct ps w λ_=>False:=
 ⟨hC,hN,h.ids,by rw[hB];exact h.root,h.tb,h.mb,h.si,h.rE,λq hq=>oV _ (h.pD q hq) (zO h hq),λp hp=>by rw[hE];exact h.ends p (eZ p hp),h.tags,h.xt,Nat.le_trans (k_ hC.tree.nodup eZ) h.dl⟩
theorem pd.add{q:Path}{c:ae}{xb:Nat}{aG:List Int}{s:Option Addr×Nat}{dd:dL}(h:pd x T es ms ids tk ct ps w (λr=>r <+: q))(hq:q∈T.D)(hn:q++[c]∉T.D)(hl:q.length<16)(hc:vC c)(hs:aj (q++[c])<=100)(hm:aG.length=aR c)(hf:T.D.length+1<=5000)(hu:gB es dd (aG++T.D.flatMap T.M))(hk:jM ms dd)(vZ:lY dd aG 0 c)(hle:∀j,((dZ es c (au es q) j:Nat):Int)<=x.T)(hdl:T.D.length+1<=1+16*w)(vY:∀j∈aG,-1<=j):
  pd x (T.add q c xb aG s) es dd ids (aQ tk (q++[c]) (stepT es c (au es q))) (aQ ct (q++[c]) (je es c (au es q))) ps w (λr=>r <+: q++[c]):=by
 have Fa:∀r,r∈(T.add q c xb aG s).D↔r∈T.D\/r=q++[c]:=λr=>by unfold Tree.add;simp
 have aT:∀r∈T.D,r≠q++[c]:=λr hr e=>hn (e▸hr)
 refine⟨h.core.add hq hn hl hc hs hm hf hu hk vZ hle vY,λr hr AP hW=>?_,h.ids,?_,h.tb,h.mb,h.si,h.rE,λp hp=>(Fa _).2 (.inl (h.pD p hp)),λp hp=>?_,h.tags,h.xt,?_⟩
 ·have hW:¬r <+: q++[c]:=hW
  have EY:r∈T.D:=((Fa r).1 hr).resolve_right λe=>hW (by rw[e];exact List.prefix_refl _)
  have TG:r≠q:=λe=>hW (by rw[e];exact List.prefix_append _ _)
  have h1:=h.uf r EY AP λh2=>hW (List.IsPrefix.trans h2 (List.prefix_append _ _))
  show aQ (aQ T.K q _) (q++[c]) [] r≠[]\/0<aQ T.E (q++[c]) 0 r
  rw[aX (aT r EY),aX TG,aX (aT r EY)]
  exact h1
 ·show x.root=aQ T.B (q++[c]) xb []
  rw[aX (aT _ h.core.tree.root)];exact h.root
 ·show aQ T.E (q++[c]) 0 p=_
  rcases(Fa p).1 hp with hp|rfl
  ·rw[aX (aT p hp)];exact h.ends p hp
  ·rw[cW]
   symm
   rw[List.length_eq_zero_iff,List.filter_eq_nil_iff]
   intro p hp e
   have e:p.conds=q++[c]:=by simpa using e
   exact hn (e▸h.pD p hp)
 ·show(T.D++[q++[c]]).length<=_
  rw[List.length_append,List.length_singleton];exact hdl
def Tree.ends(T:Tree)(p:Path)(v:Nat):Tree:=⟨T.D,T.B,T.M,aQ T.E p v,T.K,T.S⟩
theorem oB.ends{p:Path}{v:Nat}(h:oB T):oB (T.ends p v):=⟨h.nodup,h.root,h.kids,h.Bt,h.up,h.len,h.okk,h.size,h.ml,h.m0,h.Bg,h.mge⟩
theorem kV.ends{B:Int}{p:Path}{v:Nat}(h:kV B T es ms tk ct):kV B (T.ends p v) es ms tk ct:=⟨h.tree.ends,h.use,h.fit,⟨h.dH.tok,h.dH.EH,h.dH.le⟩⟩
theorem cb.ends{p:Path}{v:Nat}{A B:List Path}{F:Fls}(hn:T.D.Nodup)(e:T.D=A++p::B){L:List aY}{μ:Mem}(h:Ow (Pt (T.B p) 156 (dN (gK T tk ct fr mn p F).pv 11 [pI ((v:Nat):Int)])::IT T p::Ow ((A++B).map (fI T tk ct fr mn))::L) μ):Ow (cb (T.ends p v) tk ct fr mn::L) μ:=by
 refine cb.in_ (T:=T.ends p v) e (F:=F) ?_
 have kQ:(A++B).map (fI (T.ends p v) tk ct fr mn)=(A++B).map (fI T tk ct fr mn):=List.map_congr_left λr hr=>by
  have TG:r≠p:=by
   rintro rfl
   rw[e]at hn
   obtain⟨n1,n2,n3⟩:=List.nodup_append.1 hn
   rcases List.mem_append.1 hr with h|h
   ·exact n3 r h r (by simp) rfl
   ·exact(List.nodup_cons.1 n2).1 h
  exact cb.Ni (T:=T) (T':=T.ends p v) rfl rfl (aX TG) rfl rfl (λ_ _=>rfl) rfl rfl rfl rfl
 rw[kQ]
 have ng:(gK (T.ends p v) tk ct fr mn p F).pv=dN (gK T tk ct fr mn p F).pv 11 [pI ((v:Nat):Int)]:=by
  unfold gK oc.pv Tree.ends
  simp only[cW]
  rfl
 rw[ng];exact h
theorem pX{a b:List Prod}(h:a.Perm b):bK es a=bK es b:=Cp (h.map _)
theorem pd.put{p:Prod}(h:pd x T es ms ids tk ct ps w (λr=>r <+: p.conds))(hp:l_ p)(hD:p.conds∈T.D)(hn:aL aI cM p.name ps=none)(hw:ps.length+1<=w):pd x (T.ends p.conds (T.E p.conds+1)) es ms ids tk ct (bc aI cM p ps) w (λ_=>False):=by
 have mu:=nc (ck:=aI) (key:=cM) aP (L:=ps) (x:=p) hn
 refine⟨h.core.ends,λr hr AP _=>?_,h.ids,h.root,h.tb,h.mb,h.si.ins aP p,λq hq=>?_,λq hq=>?_,λr hr=>?_,h.tags,?_,h.dl⟩
 ·show T.K r≠[]\/0<aQ T.E p.conds (T.E p.conds+1) r
  by_cases e:r=p.conds
  ·right;rw[e,cW];omega
  ·rw[aX e]
   by_cases cZ:r <+: p.conds
   ·left
    obtain⟨s,hs⟩:=cZ
    cases s with
    |nil=>rw[List.append_nil]at hs;exact absurd hs e
    |cons d s=>
     have:r++[d]∈T.D:=h.core.tree.xR hD ⟨s,by rw[<- hs];simp⟩
     have:=(h.core.tree.kids r hr d).2 this
     intro e0;rw[e0]at this;cases this
   ·exact h.uf r hr AP cZ
 ·rcases(bj aP).1 hq with rfl|⟨h1,_⟩
  ·exact hp
  ·exact h.rE q h1
 ·rcases(bj aP).1 hq with rfl|⟨h1,_⟩
  ·exact hD
  ·exact h.pD q h1
 ·show aQ T.E p.conds (T.E p.conds+1) r=_
  rw[(mu.filter _).length_eq,List.filter_cons]
  by_cases e:r=p.conds
  ·rw[e,cW,if_pos (by simp),List.length_cons,h.ends _ hD]
  ·rw[aX e,if_neg (by simpa using λe'=>e e'.symm),h.ends r hr]
 ·rw[mu.length_eq,List.length_cons];exact hw
end
section
variable {n:Nat} {x:NC} {es:List af} {ps:List Prod} {w:Nat}
theorem LP(B:Path->Nat)(l:Path){i:Nat}(hi:i<l.length):dE B (l.take (i+1))=dE B (l.take i)++[B (l.take (i+1))]:=by
 unfold dE
 rw[List.length_take,List.length_take,Nat.min_eq_left (by omega),Nat.min_eq_left (by omega),List.range_succ,List.map_append]
 congr 1
 ·refine List.map_congr_left λj hj=>?_
  have Kl:=List.mem_range.1 hj
  rw[List.take_take,List.take_take,Nat.min_eq_left (by omega),Nat.min_eq_left (by omega)]
 ·simp[List.take_take]
theorem GM(hw:w<100)(fc fa:Fl)(p:Prod)(RQ:bD p.conds)(Gq:aj p.conds<=1000000)(RV:p.bp.length<=1000000){L:List aY}{μ:Mem}(hO:Ow (bR n x es ps w::L) μ){K:Kq}
  (hk:∀e qJ μ',mj x.T x.M es ps p e qJ->Ow (bR n x es qJ (w+1)::L) μ'->K (pI e) μ'):
  aa prog 41 [pP n 0,.agg [pS p.name,.list 7 fc (p.conds.map ae.pv),.list 19 fa (p.bp.map dh.pv)]] μ K:=by
 obtain⟨T,ms,ids,tk,ct,fr,mn,⟨hR,dQ⟩,h1⟩:=bR.open_ hO
 obtain⟨ht1,XG⟩:=hR.tb
 obtain⟨AS,uX⟩:=hR.mb
 have aeY:=hR.xt
 refine Ex.c ((Ir .sh .sh p RQ Gq RV).call ⟨_,_,rfl,ab.mk (λhc=>?_) (λhc=>?_)⟩)
 ·exact hk _ _ _ (.form (by simpa using hc)) (bR.shut (hR.mono (by omega) λ_ h=>h) dQ (show Ow (dc n x es ms ids T tk ct fr mn ps L) μ from h1))
 have Ku:(cg p).2.1=0:=by simpa using hc
 have hpk:l_ p:=⟨Ku,RQ⟩
 obtain⟨aiM,ani,aeO,aeN,hac,aT,hlen⟩:=hpk.facts
 have ZU:(ps.map (fZ T.B)).length<=100:=by rw[List.length_map];have:=hR.xt;omega
 refine⟨λ_ u=>aL aI cM p.name ps=none/\Ow (dc n x es ms ids T tk ct fr mn ps L) u,?_,?_⟩
 ·
  dsimp only[nP,nn,aF]
  refine⟨_,aE (an.qz (x:=x) (es:=es) (ms:=ms) (ids:=ids) h1 (by simp)) (by simp),?_,λb7 rT=>?_⟩
  ·refine RP.gO (Ow.at 2 rfl h1) hR.u (by omega) p.name (λy μ' hy h2=>?_) (λμ' hy h2=>?_)
   ·refine⟨_,_,_,_,_,_,_,_,rfl,λb7 rT=>?_⟩
    refine(h2.new 129 _ rT).st 0 rfl (by simp) λu2 h3=>ab.t rfl (hk _ _ _ (.there Ku ?_) (bR.shut (fr:=fr) (mn:=mn) (hR.mono (by omega) λ_ h=>h) dQ ?_))
    ·rw[iL]at hy
     cases hg:aL aI cM p.name ps with
     |some z=>rfl
     |none=>rw[hg]at hy;cases hy
    ·exact Ow.ord [1,1,0] h3.drop
   ·refine⟨_,_,_,_,_,_,_,_,rfl,λb7 rT=>?_⟩
    refine(h2.new 129 _ rT).st 0 rfl (by simp) λu2 h3=>ab.f rfl ⟨?_,?_⟩
    ·rw[iL]at hy
     cases hg:aL aI cM p.name ps with
     |some z=>rw[hg]at hy;cases hy
     |none=>rfl
    ·exact Ow.ord [1,1,0] h3.drop
  ·have h1b:=h1.new 129 [pS ⟨#[]⟩,.list 7 .nil [],.list 19 .nil [],.list 1 .nil []] rT
   refine RP.gO (Ow.at 3 rfl h1b) hR.u (by omega) p.name (λy μ' hy h2=>?_) (λμ' hy h2=>?_)
   ·refine⟨_,_,_,_,_,_,_,_,rfl,?_⟩
    refine h2.st 1 rfl (by simp) λu2 h3=>ab.t rfl (hk _ _ _ (.there Ku ?_) (bR.shut (fr:=fr) (mn:=mn) (hR.mono (by omega) λ_ h=>h) dQ ?_))
    ·rw[iL]at hy
     cases hg:aL aI cM p.name ps with
     |some z=>rfl
     |none=>rw[hg]at hy;cases hy
    ·exact Ow.ord [1,1,0] (Ow.drop (Ow.ord [1] h3))
   ·refine⟨_,_,_,_,_,_,_,_,rfl,?_⟩
    refine h2.st 1 rfl (by simp) λu2 h3=>ab.f rfl ⟨?_,?_⟩
    ·rw[iL]at hy
     cases hg:aL aI cM p.name ps with
     |some z=>rw[hg]at hy;cases hy
     |none=>rfl
    ·exact Ow.ord [1,1,0] (Ow.drop (Ow.ord [1] h3))
 rintro _ u1 ⟨hg,h2⟩
 dsimp only[nP,nn,aF]
 refine⟨_,aE (an.qz (x:=x) (es:=es) (ms:=ms) (ids:=ids) h2 (by simp)) (by simp),?_⟩
 refine ak.UI (n:=p.conds.length) (by omega) (λi s y u=>∃T ms tk ct fr mn,(s=some ⟨T.B (p.conds.take i),0,none⟩/\y.2=(dE T.B (p.conds.take i)).map (λb=>[pP b 0])/\pd x T es ms ids tk ct ps (w+1) (λr=>r <+: p.conds.take i)/\p.conds.take i∈T.D/\T.D.length<=1+16*w+i)/\Ow (dc n x es ms ids T tk ct fr mn ps (eH y.1 i 1::L)) u) ?_ ?_ ?_
 ·refine⟨T,ms,tk,ct,fr,mn,⟨?_,by simp[dE],hR.mono (by omega) λ_ h=>h.elim,hR.core.tree.root,by have:=hR.dl;omega⟩,?_⟩
  ·rw[List.take_zero,<- hR.root]
  ·exact h2.tail λ_ h=>h.tail λ_ h=>h.tail λ_ h=>h.tail λ_ h=>h.nil (.inl rfl)
 ·have TD:=dQ
  clear hR dQ h1 h2 ZU
  rintro i s ⟨fl,_⟩ u next hi ⟨T,ms,tk,ct,fr,mn,⟨rfl,rfl,hR,rR,hdl⟩,h2⟩ ar
  have ep:p.conds.take (i+1)=p.conds.take i++[p.conds[i]]:=by rw[List.take_add_one,List.getElem?_eq_getElem hi];rfl
  have hql:(p.conds.take i).length=i:=by rw[List.length_take];omega
  have fO:=jX.1 aiM _ (List.getElem_mem hi)
  have XH:aj (p.conds.take (i+1))<=16:=Nat.le_trans (fX _ _) aeN
  have alc:aR p.conds[i]<=16:=by rw[jE hi]at XH;omega
  generalize hq:p.conds.take i=q at*
  have hci:p.conds[i]=p.conds[i]:=rfl
  generalize hc:p.conds[i]=c at*
  have hqE:dE T.B q=dE T.B (p.conds.take i):=by rw[hq]
  dsimp only
  refine ab.t (by simpa using hi) ⟨by omega,_,aw hi,_,_,_,_,_,_,_,_,_,_,iI _,?_⟩
  rw[hc]
  have ZI:∀(T':Tree) (dd:dL) (xq:Path->List cf) (Bh:Path->List Nat) (qm:Path->List cf) (pL:Path->List Nat) (u':Mem),pd x T' es dd ids xq Bh ps (w+1) (λr=>r <+: q++[c])->q++[c]∈T'.D->T'.D.length<=1+16*w+(i+1)->dE T'.B q=dE T.B q->Ow (dc n x es dd ids T' xq Bh qm pL ps (eH fl i 1::L)) u'->aV false 1 8 fl ((dE T.B q).map λb=>[pP b 0]) [[pP (T'.B (q++[c])) 0]] u' λf95 ahG=>next (some ⟨T'.B (q++[c]),0,none⟩,(f95,(((dE T.B q).map λb=>[pP b 0])++[[pP (T'.B (q++[c])) 0]])),(IntKind.wrap .i64 ((i:Int)+(1)))) ahG:=λT' dd xq Bh qm pL u' hR' QJ abF aa8 h3=>by
   have h4:Ow (eH fl i 1::an n x es dd ids::cb T' xq Bh qm pL::RP.cU x.pr (ps.map (fZ T'.B))::RT.At x.el es::L) u':=Ow.ord [4] h3
   refine h4.app (by rw[List.length_map,dC,hql]) (by simp;omega) (by simp;omega) λf' u2 h5=>ar _ _ _ ⟨T',dd,xq,Bh,qm,pL,⟨by rw[ep],?_,by rw[ep];exact hR',by rw[ep];exact QJ,abF⟩,?_⟩
   ·rw[LP T'.B p.conds hi,List.map_append,hq,ep,aa8];rfl
   ·exact Ow.ord [1,1,1,1,0] h5
  refine aka hR.core.tree rR c _ _ _ (Ow.swap h2) (λgG=>⟨_,rfl,?_⟩) (λabn=>⟨_,rfl,?_⟩)
  ·refine⟨λs u'=>s=some ⟨T.B (q++[c]),0,none⟩/\u'=u,ab.f rfl ⟨rfl,rfl⟩,?_⟩
   rintro s u' ⟨rfl,rfl⟩
   exact ZI T ms tk ct fr mn u' (hR.mono (Nat.le_refl _) λr (hr:r <+: q)=>hr.trans (List.prefix_append _ _)) gG (by omega) rfl h2
  ·have iP:=hR.core.tree.Bg
   have Zx:=hR.core.aer
   have am9:=hR.core.tree.len q rR
   refine⟨λs u'=>∃T' dd xq Bh qm pL,(s=some ⟨T'.B (q++[c]),0,none⟩/\pd x T' es dd ids xq Bh ps (w+1) (λr=>r <+: q++[c])/\q++[c]∈T'.D/\T'.D.length<=1+16*w+(i+1)/\dE T'.B q=dE T.B q)/\Ow (dc n x es dd ids T' xq Bh qm pL ps (eH fl i 1::L)) u',ab.t rfl ?_,?_⟩
   ·refine aca hR.core.use (by omega) c fO (by omega) _ _ _ h2 λxb f dd aG iu nR vZ AU vY u2 h3=>⟨_,rfl,?_⟩
    dsimp only[nP,nn,aF]
    have h3n:Ow (cb T tk ct fr mn::an n x es dd ids::Pt xb 156 (jY c f aG).pv::RP.cU x.pr (ps.map (fZ T.B))::RT.At x.el es::eH fl i 1::L) u2:=Ow.ord [2] h3
    obtain⟨F,hF⟩:=cb.rd rR h3n
    have iB:=hR.core.dH.tok q rR
    refine⟨_,_,aE hF (by simp),?_⟩
    dsimp only[gK]
    rw[iB]
    have Ua:(au es q).length<=1000001:=by
     by_cases e:q=[]
     ·subst e;simp[au]
     ·obtain⟨r,d,rfl⟩:=qD e
      have h4:=hR.core.dH.le r d rR 0
      rw[jI,<- cV]at h4;omega
    have hbb:=pR (es:=es) (nG (hR.core.tree.okk q rR))
    have hsq:=hR.core.tree.size q rR
    refine Pa (n:=n) (x:=x) (ids:=ids) iu.inv hR.ids ⟨by omega,by omega⟩ (xb:=xb) (jY c f aG) fO (by show aR c<=100;omega) vZ nR (au es q) _ Ua (λt ht=>by have:=hbb t ht;omega) h3 (λhle f2 u3 h4=>⟨_,_,_,_,_,rfl,ab.f rfl ?_⟩) (λWn u3 h4=>⟨_,_,_,_,_,rfl,ab.t rfl ?_⟩)
    ·
     have hle:∀j,((dZ es c (au es q) j:Nat):Int)<=x.T:=hle
     refine h4.st 1 rfl (by simp) λu4 h5=>?_
     refine h5.st 1 rfl (by simp[dN]) λu5 h6=>?_
     have h6n:Ow (cb T tk ct fr mn::Pt xb 156 (uZ c f aG f2 (stepT es c (au es q)) .sh (je es c (au es q))).pv::an n x es dd ids::RP.cU x.pr (ps.map (fZ T.B))::RT.At x.el es::eH fl i 1::L) u5:=by
      have e:(uZ c f aG f2 (stepT es c (au es q)) .sh (je es c (au es q))).pv=dN (dN (jY c f aG).pv 9 [.list 2 f2 ((stepT es c (au es q)).map cf.pv)]) 10 [.list 1 .sh ((je es c (au es q)).map jv)]:=rfl
      rw[e]
      exact Ow.ord [2,1] h6
     obtain⟨F2,DD⟩:=cb.rd rR h6n
     refine⟨_,_,_,aE DD (by simp),?_⟩
     dsimp only[gK]
     refine cb.acF hR.core.tree rR abn h6n (K:=_) λs u6 h7=>?_
     have aiQ:∀r∈T.D,r≠q++[c]:=λr hr e=>abn (e▸hr)
     have hBo:∀r∈T.D,(T.add q c xb aG s).B r=T.B r:=λr hr=>aX (aiQ r hr)
     refine⟨T.add q c xb aG s,dd,aQ tk (q++[c]) (stepT es c (au es q)),aQ ct (q++[c]) (je es c (au es q)),aQ fr (q++[c]) [],aQ mn (q++[c]) [],⟨?_,hR.add rR abn (by omega) fO (by rw[<- ep];omega) nR (by omega) iu AU vZ hle (by omega) vY,?_,?_,?_⟩,?_⟩
     ·show some (⟨xb,0,none⟩:Addr)=some ⟨aQ T.B (q++[c]) xb (q++[c]),0,none⟩
      rw[cW]
     ·show q++[c]∈T.D++[q++[c]]
      simp
     ·show(T.D++[q++[c]]).length<=_
      rw[List.length_append,List.length_singleton];omega
     ·exact Om hR.core.tree hBo rR
     ·show Ow (an n x es dd ids::cb _ _ _ _ _::RP.cU x.pr (ps.map (fZ (T.add q c xb aG s).B))::RT.At x.el es::eH fl i 1::L) u6
      rw[SU hR.core.tree hBo hR.pD]
      exact Ow.swap h7
    ·
     obtain⟨j,hj⟩:=Wn
     have hj:x.T<((dZ es c (au es q) j:Nat):Int):=hj
     refine Pf (jY c f aG) (l:=T.D.flatMap T.M) iu (by show aG.length<=1000;omega) h4 λLC IW hK2 u4 h5=>⟨rfl,?_⟩
     have hC2:kV x.T T es LC tk ct:=⟨hR.core.tree,IW,λr d hd=>wc (λj hj d' hm=>hK2 j d' (List.mem_flatMap.2 ⟨_,hd,hj⟩) (AU j d' hm)) d 0 (hR.core.fit r d hd),hR.core.dH⟩
     have h6:Ow (an n x es LC ids::cb T tk ct fr mn::RP.cU x.pr (ps.map (fZ T.B))::RT.At x.el es::eH fl i 1::L) u4:=h5.tail λ_ h=>h.drop
     refine Il q (by omega) hC2 rR hR.uf hR.root _ h6 λT' We u5 hC3 hN3 Uw hE3 eZ oV h7=>⟨rfl,?_⟩
     have Ur:pd x T es LC ids tk ct ps (w+1) (λr=>r <+: q):=⟨hC2,hR.uf,hR.ids,hR.root,hR.tb,hR.mb,hR.si,hR.rE,hR.pD,hR.ends,hR.tags,hR.xt,hR.dl⟩
     refine hk _ _ _ (.dH Ku hg ⟨i,hi,j,?_⟩) (bR.shut (fr:=fr) (mn:=mn) (Ur.Hp hC3 hN3 Uw hE3 eZ oV) ?_ ?_)
     ·rw[hc,hq];exact hj
     ·exact TD
     ·show Ow (an n x es We ids::cb T' tk ct fr mn::RP.cU x.pr (ps.map (fZ T'.B))::RT.At x.el es::L) u5
      rw[Uw]
      exact h7.tail λ_ h=>h.tail λ_ h=>h.tail λ_ h=>h.tail λ_ h=>h.drop
   ·rintro s u' ⟨T',dd,xq,Bh,qm,pL,⟨rfl,hR',QJ,abF,aa8⟩,h3⟩
    exact ZI T' dd xq Bh qm pL u' hR' QJ abF aa8 h3
 ·have TD:=dQ
  clear hR dQ h1 h2 ZU
  rintro s ⟨fl,_⟩ u next ⟨T,ms,tk,ct,fr,mn,⟨rfl,rfl,hR,rR,hdl⟩,h2⟩
  dsimp only
  rw[List.take_length]at hR rR |-
  refine ab.f (by simp) ?_
  have iB:=hR.core.dH.tok _ rR
  have ui:=hR.core.tree.Bg
  have afa:∀r∈T.D,(tk r).length<=1024:=λr hr=>by
   rw[hR.core.dH.tok r hr]
   by_cases e:r=[]
   ·subst e;simp[au]
   ·obtain⟨q,d,rfl⟩:=qD e
    have h4:=hR.core.dH.le q d hr 0
    rw[jI,<- cV]at h4;omega
  have Kh:¬du x.T es p.conds:=by
   rintro⟨i,hi,j,hj⟩
   have hD1:p.conds.take i++[p.conds[i]]∈T.D:=by
    have:p.conds.take (i+1)=p.conds.take i++[p.conds[i]]:=by rw[List.take_add_one,List.getElem?_eq_getElem hi];rfl
    rw[<- this];exact hR.core.tree.xR rR (List.take_prefix _ _)
   have:=hR.core.dH.le _ _ hD1 j
   omega
  have aeP:(ps.map λq=>(tk q.conds).length).sum=bK es ps:=by
   unfold bK
   congr 1
   exact List.map_congr_left λq hq=>by rw[hR.core.dH.tok _ (hR.pD q hq)]
  have Zw:ps.length<=100:=by have:=hR.xt;omega
  have XU:∀{u':Mem} {Kx:Kq},Ow (dc n x es ms ids T tk ct fr mn ps (eH fl p.conds.length 1::L)) u'->(∀μ',Ow (dc n x es ms ids T tk ct fr mn ps (eH fl p.conds.length 1::L)) μ'->Kx (pI ((bK es ps:Nat):Int)) μ')->aa prog 107 [pP n 0] u' Kx:=λ{u' Kx} h3 hKx=>by
   refine akb (by omega) (λq hq=>?_) (λq hq=>Nat.le_succ_of_le (afa _ (hR.pD q hq))) h3 λμ' h4=>?_
   ·obtain⟨_,_,_,_,_,g1,g2⟩:=(hR.rE q hq).facts
    exact⟨hR.pD q hq,g1,by omega⟩
   ·rw[aeP];exact hKx μ' h4
  have abd:∀{u':Mem},Ow (dc n x es ms ids T tk ct fr mn ps (eH fl p.conds.length 1::L)) u'->∃f,aB u' (T.B p.conds) (0+9) 1=some [.list 2 f ((au es p.conds).map cf.pv)]:=λ{u'} h3=>by
   obtain⟨F,hF⟩:=cb.rd rR (Ow.swap h3)
   have:=aE (o:=0+9) (n:=1) hF (by simp)
   dsimp only[gK]at this
   rw[iB]at this
   exact⟨_,this⟩
  have XL:∀{u':Mem},Ow (dc n x es ms ids T tk ct fr mn ps (eH fl p.conds.length 1::L)) u'->aB u' n (0+1) 1=some [pI x.M]:=λ{u'} h3=>aE (an.qz (x:=x) (es:=es) (ms:=ms) (ids:=ids) h3 (by simp)) (by simp)
  have hJ:decide (IntKind.wrap .i64 (((bK es ps:Nat):Int)+((((au es p.conds).map cf.pv).length:Nat):Int))>x.M)=decide (x.M<((bK es ps+(au es p.conds).length:Nat):Int)):=by
   have h5:=afa _ rR
   rw[iB]at h5
   rw[List.length_map,az (by omega) (by omega)]
   congr 1
  refine⟨λb u'=>b=decide (x.M<((bK es ps+(au es p.conds).length:Nat):Int))/\Ow (dc n x es ms ids T tk ct fr mn ps (eH fl p.conds.length 1::L)) u',?_,?_⟩
  ·dsimp only[nP,nn,aF]
   obtain⟨f0,hf0⟩:=abd h2
   refine⟨⟨_,_,hf0,⟨_,XL h2,XU h2 λμ' h4=>⟨_,rfl,hJ,h4⟩,trivial⟩,XU h2 λμ' h4=>⟨_,rfl,_,XL h4,hJ,h4⟩,trivial⟩,⟨_,XL h2,XU h2 λμ' h4=>?_,trivial⟩,XU h2 λμ' h4=>?_,trivial⟩
   ·obtain⟨f1,hf1⟩:=abd h4
    exact⟨_,rfl,_,_,hf1,hJ,h4⟩
   ·obtain⟨f1,hf1⟩:=abd h4
    exact⟨_,rfl,_,_,hf1,_,XL h4,hJ,h4⟩
  ·rintro b u' ⟨rfl,h3⟩
   refine ab.mk (λhb=>?_) (λhb=>?_)
   ·have iK:x.M<((bK es ps+(au es p.conds).length:Nat):Int):=by simpa using hb
    refine Il p.conds (by omega) hR.core rR hR.uf hR.root _ h3 λT' We u5 hC3 hN3 Uw hE3 eZ oV h7=>⟨rfl,?_⟩
    refine hk _ _ _ (.eK Ku hg Kh iK) (bR.shut (fr:=fr) (mn:=mn) (hR.Hp hC3 hN3 Uw hE3 eZ oV) TD ?_)
    show Ow (an n x es We ids::cb T' tk ct fr mn::RP.cU x.pr (ps.map (fZ T'.B))::RT.At x.el es::L) u5
    rw[Uw]
    exact h7.tail λ_ h=>h.tail λ_ h=>h.tail λ_ h=>h.tail λ_ h=>h.drop
   ·have iK:((bK es ps+(au es p.conds).length:Nat):Int)<=x.M:=by
     have:¬x.M<((bK es ps+(au es p.conds).length:Nat):Int):=by simpa using hb
     omega
    have afG:T.E p.conds<=100:=by
     rw[hR.ends _ rR];exact Nat.le_trans (List.length_filter_le _ _) Zw
    obtain⟨A,B,F,eD,h4⟩:=cb.out rR (Ow.swap h3)
    refine⟨_,h4.rd 0 rfl (by simp),?_⟩
    refine h4.st 0 rfl (by simp) λu2 h5=>?_
    have RH:IntKind.wrap .i64 (((T.E p.conds:Nat):Int)+1)=((T.E p.conds+1:Nat):Int):=by rw[az (by omega) (by omega)];omega
    rw[RH]at h5
    have h6:Ow (cb (T.ends p.conds (T.E p.conds+1)) tk ct fr mn::an n x es ms ids::RP.cU x.pr (ps.map (fZ T.B))::RT.At x.el es::eH fl p.conds.length 1::L) u2:=cb.ends hR.core.tree.nodup eD h5
    refine⟨_,aE (an.qz (x:=x) (es:=es) (ms:=ms) (ids:=ids) h6 (by simp)) (by simp),?_⟩
    have hpr:=Zg .sh .sh p Gq RQ RV
    refine hpr.q ⟨_,_,_,_,_,rfl,?_⟩
    rw[Mem.oM]
    refine RP.oZ (l:=ps.map (fZ T.B)) (Ow.at 2 rfl h6) hR.u (by rw[List.length_map];omega) p.name ⟨p,dE T.B p.conds⟩ λu3 h7=>⟨_,rfl,?_⟩
    have uh:ps.length+1<=w+1:=by
     have ajd:=hR.xt
     have:=aeY
     omega
    refine hk _ _ _ (.ok Ku hg Kh iK) (bR.shut (fr:=fr) (mn:=mn) (hR.put hpk rR hg uh) ?_ ?_)
    ·rw[pX (nc (ck:=aI) (key:=cM) aP (L:=ps) (x:=p) hg)]
     show(((((p::ps).map λq=>(au es q.conds).length).sum:Nat)):Int)<=x.M
     rw[List.map_cons,List.sum_cons]
     unfold bK at iK
     omega
    ·show Ow (an n x es ms ids::cb (T.ends p.conds (T.E p.conds+1)) tk ct fr mn::RP.cU x.pr ((bc aI cM p ps).map (fZ T.B))::RT.At x.el es::L) u3
     have e2:bc RP.ck RP.key (p.name,⟨p,dE T.B p.conds⟩) (ps.map (fZ T.B))=(bc aI cM p ps).map (fZ T.B):=nQ (f:=fZ T.B) (x:=p)
     rw[e2]at h7
     exact(Ow.ord [2,1,0] h7).tail λ_ h=>h.tail λ_ h=>h.tail λ_ h=>h.tail λ_ h=>h.drop
end
def jR(e:af):Bool:=(e.id.k == 1)&&((e.attr.k != 1)&&(gS e.id&&(gS e.attr&&gS e.value)))
theorem Rj(e:af):Pure prog 90 [.agg e.pv] (pB (jR e)):=by
 refine ao.of (Lx.c ?_)
 unfold jR
 refine ab.mk (λh1=>ab.mk (λh2=>(Ij e.id).call ⟨_,rfl,ab.mk (λh3=>(Ij e.attr).call ⟨_,rfl,ab.mk (λh4=>(Ij e.value).call ⟨_,rfl,?_⟩) (λh4=>?_)⟩) (λh3=>?_)⟩) (λh2=>?_)) (λh1=>?_)<;>simp_all [wk,cH]
theorem Nk(e:af):Pure prog 100 [.agg e.pv] (pB (jR e)):=by
 refine ao.of (uz.c ?_)
 unfold jR
 refine(zT e.id).call ⟨_,rfl,ab.mk (λh1=>ab.mk (λh2=>(zU e.attr).call ⟨_,rfl,ab.mk (λh3=>(zT e.value).call ⟨_,rfl,?_⟩) (λh3=>?_)⟩) (λh2=>?_)) (λh1=>?_)⟩<;>simp_all [wk,cH,nX]
 all_goals (first|(intro _ h;exact h3 h)|grind)
def gE(ms dd:dL):Prop:=∀k,(aL aA cA k dd).map (λy=>(y.2.c,y.2.aU))=(aL aA cA k ms).map (λy=>(y.2.c,y.2.aU))
theorem gE.refl(ms:dL):gE ms ms:=λ_=>rfl
theorem gE.trans{a b c:dL}(h:gE a b)(k:gE b c):gE a c:=λj=>(k j).trans (h j)
theorem gE.map{ms:dL}{f:Int×fM->Int×fM}(hf:∀y,(f y).1=y.1/\(f y).2.c=y.2.c/\(f y).2.aU=y.2.aU):gE ms (ms.map f):=λk=>by
 have e:aL aA cA k (ms.map f)=(aL aA (λy=>cA (f y)) k ms).map f:=ql
 have e2:(λy=>cA (f y))=cA:=funext λy=>(hf y).1
 rw[e,e2,Option.map_map]
 congr 1
 funext y
 show((f y).2.c,(f y).2.aU)=_
 rw[(hf y).2.1,(hf y).2.2]
theorem gE.mem{a b:dL}(h:gE a b):jM a b:=λj d ⟨y,hy,hd⟩=>by
 have:=h j
 rw[hy]at this
 cases hg:aL aA cA j b with
 |none=>rw[hg]at this;cases this
 |some z=>
  rw[hg]at this
  simp only[Option.map_some,Option.some.injEq,Prod.mk.injEq]at this
  exact⟨z,hg,this.1.trans hd⟩
theorem gE.aU{a b:dL}(h:gE a b)(k:Int):gT k b=gT k a:=by
 have:=congrArg (λo:Option (ae×Int)=>(o.map (·.2)).getD 0) (h k)
 simp only[Option.map_map]at this
 exact this
theorem gE.use{es fs:List af}{a b:dL}{l:List Int}(h:gE a b)(hu:gB es a l)(hA:eC fs b):gB fs b l:=⟨hA,λk hk=>by rw[h.aU k];exact hu.use k hk⟩
section
variable {n:Nat} {x:NC} {es:List af} {ms:dL} {ids:pt}
theorem aaj{kA:List af}(hu:ca aA aH es)(hle:es.length<=1000000)(t:Int){L:List aY}{μ:Mem}(hO:Ow (an n x kA ms ids::RT.At x.el es::L) μ){K:Kq}
  (h1:∀e,aL aA aH t es=some e->K (.aD [.agg e.pv,pB true]) μ) (h0:aL aA aH t es=none->K (.aD [RT.zero,pB false]) μ):aa prog 92 [pP n 0,pI t] μ K:=by
 refine Et.c ?_
 refine⟨_,aE (an.qz (x:=x) (es:=kA) (ms:=ms) (ids:=ids) hO (by simp)) (by simp),?_⟩
 refine RT.lq (l:=es) (Ow.swap hO) hu (by omega) ⟨⟨0,⟨#[]⟩,0⟩,⟨0,⟨#[]⟩,0⟩,⟨0,⟨#[]⟩,0⟩,false,false,t⟩ (λy hy=>⟨_,_,_,_,_,_,_,_,_,_,_,_,_,rfl,h1 y hy⟩) (λhy=>⟨_,_,_,_,_,_,_,_,_,_,_,_,_,rfl,h0 hy⟩)
end
instance decSym:DecidableEq Sym:=λa b=>if h:WN a b=true then isTrue ((xD a b).1 h)else isFalse λe=>h ((xD a b).2 e)
theorem kJ.mk2{es:List af}{ids:pt}(up:ca gN lG ids)(has:∀x∈ids,x.2.2=es.filter λe=>gf e.id x.1)(one:∀e∈es,∃x∈ids,x.1=e.id)(some_:∀x∈ids,x.2.2≠[]):kJ es ids:=by
 refine⟨up,has,one,some_,?_⟩
 have h:=k_ (a:=ids.map lG) (b:=es.map (·.id)) ?_ ?_
 ·simpa using h
 ·have h1:(ids.map lG).Pairwise λa b=>gN a b<0:=by rw[List.pairwise_map];exact up
  refine h1.imp λ{a b} uk e=>?_
  rw[e]at uk
  exact absurd uk (by rw[bX.self b];omega)
 ·intro s hs
  obtain⟨y,hy,rfl⟩:=List.mem_map.1 hs
  have h1:=some_ y hy
  cases hl:y.2.2 with
  |nil=>exact absurd hl h1
  |cons e l=>
   have:e∈es.filter λe=>gf e.id y.1:=by rw[<- has y hy,hl];simp
   obtain⟨h2,h3⟩:=List.mem_filter.1 this
   exact List.mem_map.2 ⟨e,h2,cF.1 h3⟩
theorem Nc{es:List af}(hu:ca aA aH es){e:af}(hn:aL aA aH e.tag es=none)(p:af->Bool):(bc aA aH e es).filter p=if p e then bc aA aH e (es.filter p)else es.filter p:=by
 have hnn:=(bx ax).1 hn
 split
 ·rename_i hp
  refine ca.ext ax ((hu.ins ax e).filter _) (ca.ins ax (hu.filter _) e) λy=>?_
  rw[bj ax,List.mem_filter,List.mem_filter,bj ax]
  constructor
  ·rintro⟨rfl|⟨h1,h3⟩,h2⟩
   ·exact .inl rfl
   ·exact .inr ⟨⟨h1,h2⟩,h3⟩
  ·rintro(rfl|⟨⟨h1,h2⟩,h3⟩)
   ·exact⟨.inl rfl,hp⟩
   ·exact⟨.inr ⟨h1,h3⟩,h2⟩
 ·rename_i hp
  refine ca.ext ax ((hu.ins ax e).filter _) (hu.filter _) λy=>?_
  rw[List.mem_filter,List.mem_filter,bj ax]
  constructor
  ·rintro⟨rfl|⟨h1,h3⟩,h2⟩
   ·exact absurd h2 hp
   ·exact⟨h1,h2⟩
  ·rintro⟨h1,h2⟩
   exact⟨.inr ⟨h1,hnn y h1⟩,h2⟩
theorem Nd{es:List af}(t:Int)(p:af->Bool):(bq aA aH t es).filter p=bq aA aH t (es.filter p):=by
 unfold bq
 rw[List.filter_filter,List.filter_filter]
 exact List.filter_congr λy _=>Bool.and_comm _ _
def oA(e:af)(y:Sym×Nat×List af):Sym×Nat×List af:=if y.1=e.id then(y.1,y.2.1,bc aA aH e y.2.2)else y
def pZ(e:af)(y:Sym×Nat×List af):Sym×Nat×List af:=if y.1=e.id then(y.1,y.2.1,bq aA aH e.tag y.2.2)else y
theorem Ae(e:af)(y:Sym×Nat×List af):(oA e y).1=y.1/\(oA e y).2.1=y.2.1:=by unfold oA;split<;>exact⟨rfl,rfl⟩
theorem CI(e:af)(y:Sym×Nat×List af):(pZ e y).1=y.1/\(pZ e y).2.1=y.2.1:=by unfold pZ;split<;>exact⟨rfl,rfl⟩
theorem YN(e:af)(ids:pt):(ids.map (oA e)).map rF=ids.map rF:=by
 rw[List.map_map]
 exact List.map_congr_left λy _=>by
  show((oA e y).1,some (⟨(oA e y).2.1,0,none⟩:Addr))=_
  rw[(Ae e y).1,(Ae e y).2];rfl
theorem Xa(e:af)(ids:pt):(ids.map (pZ e)).map rF=ids.map rF:=by
 rw[List.map_map]
 exact List.map_congr_left λy _=>by
  show((pZ e y).1,some (⟨(pZ e y).2.1,0,none⟩:Addr))=_
  rw[(CI e y).1,(CI e y).2];rfl
theorem JK{ids:pt}(hu:ca gN lG ids){z:Sym×Nat×List af}{A B:pt}(e:ids=A++z::B){f:Sym×Nat×List af->Sym×Nat×List af}(hf:∀y,y.1≠z.1->f y=y):ids.map f=A++f z::B:=by
 have hz:z∈ids:=by rw[e];simp
 have hA:∀y∈A,f y=y:=λy hy=>hf y λh=>by
  have:y=z:=hu.inj bX (by rw[e];simp[hy]) hz h
  subst this
  rw[e]at hu
  have:=(List.pairwise_append.1 hu).2.2 y hy y (by simp)
  exact absurd this (by rw[bX.self];omega)
 have hB:∀y∈B,f y=y:=λy hy=>hf y λh=>by
  have:y=z:=hu.inj bX (by rw[e];simp[hy]) hz h
  subst this
  rw[e]at hu
  have:=(List.pairwise_cons.1 (List.pairwise_append.1 hu).2.1).1 y hy
  exact absurd this (by rw[bX.self];omega)
 rw[e,List.map_append,List.map_cons]
 have m1:A.map f=A:=by conv=>rhs;rw[<- List.map_id A]
                       exact List.map_congr_left hA
 have m2:B.map f=B:=by conv=>rhs;rw[<- List.map_id B]
                       exact List.map_congr_left hB
 rw[m1,m2]
section
variable {n:Nat} {x:NC} {es:List af} {ms:dL} {ids:pt}
theorem an.Zp{L:List aY}{μ:Mem}(h:Ow (an n x es ms ids::L) μ):Ow (RI.cU x.id (ids.map rF)::Pt n 137 x.pv::bV x.al es ms::(ids.map fC++L)) μ:=by
 have h1:Ow (Pt n 137 x.pv::bV x.al es ms::iM x.id ids::L) μ:=h.nest (L1:=[Pt n 137 x.pv,bV x.al es ms,iM x.id ids])
 have h2:Ow (iM x.id ids::Pt n 137 x.pv::bV x.al es ms::L) μ:=Ow.ord [2] h1
 have h3:Ow (RI.cU x.id (ids.map rF)::(ids.map fC++(Pt n 137 x.pv::bV x.al es ms::L))) μ:=h2.nest (L1:=RI.cU x.id (ids.map rF)::ids.map fC)
 exact h3.tail λν hν=>xU (ids.map fC) [Pt n 137 x.pv,bV x.al es ms] L hν
theorem an.MK{L:List aY}{μ:Mem}(h:Ow (RI.cU x.id (ids.map rF)::Pt n 137 x.pv::bV x.al es ms::(ids.map fC++L)) μ):Ow (an n x es ms ids::L) μ:=by
 have h3:Ow (RI.cU x.id (ids.map rF)::(ids.map fC++(Pt n 137 x.pv::bV x.al es ms::L))) μ:=h.tail λν hν=>xU [Pt n 137 x.pv,bV x.al es ms] (ids.map fC) L hν
 have h2:Ow (iM x.id ids::Pt n 137 x.pv::bV x.al es ms::L) μ:=Ow.pack (L1:=RI.cU x.id (ids.map rF)::ids.map fC) h3
 exact Ow.pack (L1:=[Pt n 137 x.pv,bV x.al es ms,iM x.id ids]) (Ow.ord [1,1,0] h2)
structure akr(es:List af)(ids:pt)(z:Sym×Nat×List af):Prop where
 up:ca gN lG ids
 has:∀y∈ids,y.2.2=es.filter λe=>gf e.id y.1
 one:∀e∈es,∃y∈ids,y.1=e.id
 at_:z∈ids
 some_:∀y∈ids,y.1≠z.1->y.2.2≠[]
theorem aah(hA:eC es ms)(hI:kJ es ids){e:af}(hn:aL aA aH e.tag es=none)(hle:es.length+1<1000000){L:List aY}{μ:Mem}(hO:Ow (an n x es ms ids::RT.At x.el es::L) μ){K:Kq}
  (hk:∀dd jP f μ',eC (bc aA aH e es) dd->kJ (bc aA aH e es) jP->gE ms dd->Ow (an n x (bc aA aH e es) dd jP::RT.At x.el (bc aA aH e es)::L) μ'->K (.list 1 f ((fS e ms).map ir)) μ'):
  aa prog 88 [pP n 0,.agg e.pv] μ K:=by
 refine Es.c ?_
 refine⟨_,aE (an.qz (x:=x) (es:=es) (ms:=ms) (ids:=ids) hO (by simp)) (by simp),?_⟩
 refine RT.gW (l:=es) (Ow.swap hO) hA.ua (by omega) e λu h1=>⟨_,rfl,?_⟩
 have E_:et RT.ck RT.key e es=bc aA aH e es:=by
  rw[et,show aL RT.ck RT.key (RT.key e) es=none from hn];rfl
 rw[E_]at h1
 refine⟨_,aE (an.qz (x:=x) (es:=es) (ms:=ms) (ids:=ids) h1 (by simp)) (by simp),?_⟩
 have h2:=an.Zp (Ow.swap h1)
 have hil:=hI.le
 have fin:∀(ke:pt) (z:Sym×Nat×List af) (u2:Mem),akr es ke z->z.1=e.id->Ow (RI.cU x.id (ke.map rF)::Pt n 137 x.pv::bV x.al es ms::(ke.map fC++(RT.At x.el (bc aA aH e es)::L))) u2->
   aa prog 93 [pP z.2.1 0,.agg e.pv] u2 λv_4 NU=>∃(x38:Bool),v_4=(pB x38)/\∃(x43:Option Addr),aB NU n (0+3) 1=some [(.raw (.pointer x43))]/\
     aa prog 147 [(.raw (.pointer x43)),.agg e.pv] NU λv_5 Zc=>
     ∃(YX:Fl) (ady:Lq),∃(ahp:Int),v_5=(.aD [(.list 1 YX ady),(pI ahp)])/\K (.list 1 YX ady) Zc:=λke z u2 hP hz h3=>by
  obtain⟨A,B,eA⟩:=List.append_of_mem hP.at_
  have Zq:ca aA aH z.2.2:=by rw[hP.has z hP.at_];exact hA.ua.filter _
  have Gn:z.2.2.length<=es.length:=by rw[hP.has z hP.at_];exact List.length_filter_le _ _
  have hzn:aL aA aH e.tag z.2.2=none:=(bx ax).2 λy hy=>(bx ax).1 hn y (by rw[hP.has z hP.at_]at hy;exact(List.mem_filter.1 hy).1)
  have eS:ke.map fC=A.map fC++fC z::B.map fC:=by rw[eA];simp
  rw[eS]at h3
  have h4:=Ow.pick (P:=[RI.cU x.id (ke.map rF),Pt n 137 x.pv,bV x.al es ms]) h3
  refine RT.gW (l:=z.2.2) h4 Zq (by omega) e λu5 h5=>⟨_,rfl,?_⟩
  have aeX:et RT.ck RT.key e z.2.2=bc aA aH e z.2.2:=by
   rw[et,show aL RT.ck RT.key (RT.key e) z.2.2=none from hzn];rfl
  rw[aeX]at h5
  have T_:ke.map (oA e)=A++oA e z::B:=JK hP.up eA λy hy=>by unfold oA;rw[if_neg (by rw[<- hz];exact hy)]
  have haz:fC (oA e z)=RT.At z.2.1 (bc aA aH e z.2.2):=by unfold fC oA;rw[if_pos hz]
  have h6:Ow (RI.cU x.id ((ke.map (oA e)).map rF)::Pt n 137 x.pv::bV x.al es ms::((ke.map (oA e)).map fC++(RT.At x.el (bc aA aH e es)::L))) u5:=by
   rw[YN,T_,List.map_append,List.map_cons,haz]
   exact Ow.vl (P:=[RI.cU x.id (ke.map rF),Pt n 137 x.pv,bV x.al es ms]) h5
  have h7:=an.MK h6
  have AY:kJ (bc aA aH e es) (ke.map (oA e)):=by
   refine kJ.mk2 (ca.map (f:=oA e) (by rw[show(λy=>lG (oA e y))=lG from funext λy=>(Ae e y).1];exact hP.up)) (λy hy=>?_) (λe' OO=>?_) (λy hy=>?_)
   ·obtain⟨y,ML,rfl⟩:=List.mem_map.1 hy
    rw[(Ae e y).1,Nc hA.ua hn,<- hP.has y ML]
    unfold oA
    by_cases h:y.1=e.id
    ·rw[if_pos h,if_pos (by rw[h];exact Co _)]
    ·rw[if_neg h,if_neg λh2=>h (cF.1 h2).symm]
   ·rcases(bj ax).1 OO with rfl|⟨h,_⟩
    ·exact⟨oA e' z,List.mem_map_of_mem hP.at_,(Ae e' z).1.trans hz⟩
    ·obtain⟨y,hy,TA⟩:=hP.one e' h
     exact⟨oA e y,List.mem_map_of_mem hy,(Ae e y).1.trans TA⟩
   ·obtain⟨y,ML,rfl⟩:=List.mem_map.1 hy
    unfold oA
    by_cases h:y.1=e.id
    ·rw[if_pos h]
     intro h0
     have:e∈bc aA aH e y.2.2:=(bj ax).2 (.inl rfl)
     rw[show bc aA aH e y.2.2=[]from h0]at this;cases this
    ·rw[if_neg h];exact hP.some_ y ML (by rw[hz];exact h)
  refine⟨_,aE (an.qz (x:=x) (es:=es) (ms:=ms) (ids:=ke.map (oA e)) h7 (by simp)) (by simp),?_⟩
  refine af8 (an.alpha h7) hA e (λhs=>by rw[hn]at hs;cases hs) λ_ u6 f h8=>⟨_,_,_,rfl,?_⟩
  refine hk (ms.map (zr e)) (ke.map (oA e)) f u6 (hA.zr hn hle) AY (gE.map λy=>⟨rfl,rfl,rfl⟩) ?_
  exact an.back h8
 refine RI.gO h2 hI.u (by simp;omega) e.id (λy u2 hy h3=>?_) (λu2 hy h3=>?_)
 ·rw[Na]at hy
  obtain⟨z,hz,rfl⟩:=Option.map_eq_some_iff.1 hy
  obtain⟨RE,HH⟩:=(aM bX hI.up).1 hz
  refine⟨_,_,rfl,λs u=>s=some ⟨z.2.1,0,none⟩/\u=u2,ab.f rfl ⟨rfl,rfl⟩,?_⟩
  rintro s u' ⟨rfl,rfl⟩
  exact fin ids z u' ⟨hI.up,hI.has,hI.one,RE,λy hy _=>hI.some_ y hy⟩ HH h3
 ·rw[Na]at hy
  have hz:aL gN lG e.id ids=none:=map_none hy
  have hzn:=(bx bX).1 hz
  refine⟨_,_,rfl,λs u=>∃b,s=some ⟨b,0,none⟩/\Ow (RI.cU x.id ((bc gN lG (e.id,b,[]) ids).map rF)::Pt n 137 x.pv::bV x.al es ms::((bc gN lG (e.id,b,[]) ids).map fC++(RT.At x.el (bc aA aH e es)::L))) u,ab.t rfl ?_,?_⟩
  ·refine RT.iy h3 .nil [] (by simp) λu3 b h4=>⟨_,rfl,?_⟩
   dsimp only[nP,nn,aF]
   have h5:Ow (RI.cU x.id (ids.map rF)::RT.At b []::Pt n 137 x.pv::bV x.al es ms::(ids.map fC++(RT.At x.el (bc aA aH e es)::L))) u3:=h4.swap
   refine⟨_,h5.rd 2 rfl (by simp),?_⟩
   refine RI.oZ h5 hI.u (by simp;omega) e.id (some ⟨b,0,none⟩) λu4 h6=>⟨_,rfl,b,rfl,?_⟩
   have e2:bc RI.ck RI.key (e.id,some ⟨b,0,none⟩) (ids.map rF)=(bc gN lG (e.id,b,[]) ids).map rF:=nQ (f:=rF) (x:=(e.id,b,[]))
   rw[e2]at h6
   have mu:((bc gN lG (e.id,b,[]) ids).map fC).Perm (RT.At b []::ids.map fC):=(nc (ck:=gN) (key:=lG) bX (x:=(e.id,b,[])) hz).map fC
   refine h6.tail λν hν=>?_
   have h7:Ow (Pt n 137 x.pv::bV x.al es ms::((RT.At b []::ids.map fC)++(RT.At x.el (bc aA aH e es)::L))) ν:=Ow.ord [1,1,0] hν
   exact h7.tail λ_ h=>h.tail λ_ h=>h.perm (mu.symm.append_right _)
  ·rintro s u' ⟨b,rfl,h4⟩
   refine fin _ (e.id,b,[]) u' ⟨hI.up.ins bX _,λy hy=>?_,λe' OO=>?_,(bj bX).2 (.inl rfl),λy hy aT=>?_⟩ rfl h4
   ·rcases(bj bX).1 hy with rfl|⟨h,_⟩
    ·symm
     rw[List.filter_eq_nil_iff]
     intro e' OO hs
     obtain⟨y,hy,hk⟩:=hI.one e' OO
     exact hzn y hy (hk.trans (cF.1 hs))
    ·exact hI.has y h
   ·obtain⟨y,hy,hk⟩:=hI.one e' OO
    exact⟨y,(bj bX).2 (.inr ⟨hy,hzn y hy⟩),hk⟩
   ·rcases(bj bX).1 hy with rfl|⟨h,_⟩
    ·exact absurd rfl aT
    ·exact hI.some_ y h
theorem Vj(hA:eC es ms)(hI:kJ es ids){e:af}(he:e∈es){L:List aY}{μ:Mem}(hO:Ow (an n x es ms ids::RT.At x.el es::L) μ){K:Kq}
  (hk:∀dd jP f μ',eC (bq aA aH e.tag es) dd->kJ (bq aA aH e.tag es) jP->gE ms dd->Ow (an n x (bq aA aH e.tag es) dd jP::RT.At x.el (bq aA aH e.tag es)::L) μ'->K (.list 1 f ((fS e ms).map ir)) μ'):
  aa prog 96 [pP n 0,.agg e.pv] μ K:=by
 have hle:=hA.le
 have hil:=hI.le
 have Fc:aL aA aH e.tag es=some e:=(aM ax hA.ua).2 ⟨he,rfl⟩
 refine BG.c ?_
 refine⟨_,aE (an.qz (x:=x) (es:=es) (ms:=ms) (ids:=ids) hO (by simp)) (by simp),?_⟩
 refine RT.ia (l:=es) (Ow.swap hO) hA.ua (by omega) e λu h1=>⟨_,rfl,?_⟩
 have Ui:bq RT.ck RT.key (RT.key e) es=bq aA aH e.tag es:=rfl
 rw[Ui]at h1
 refine⟨_,aE (an.qz (x:=x) (es:=es) (ms:=ms) (ids:=ids) h1 (by simp)) (by simp),?_⟩
 have h2:=an.Zp (Ow.swap h1)
 refine RI.gO h2 hI.u (by simp;omega) e.id (λy u2 hy h3=>?_) (λu2 hy h3=>?_)
 ·rw[Na]at hy
  obtain⟨z,hz,rfl⟩:=Option.map_eq_some_iff.1 hy
  obtain⟨RE,HH⟩:=(aM bX hI.up).1 hz
  have HH:z.1=e.id:=HH
  obtain⟨A,B,eA⟩:=List.append_of_mem RE
  have Zq:ca aA aH z.2.2:=by rw[hI.has z RE];exact hA.ua.filter _
  have Gn:z.2.2.length<=es.length:=by rw[hI.has z RE];exact List.length_filter_le _ _
  have eS:ids.map fC=A.map fC++fC z::B.map fC:=by conv=>lhs;rw[eA]
                                                  simp
  rw[eS]at h3
  have h4:=Ow.pick (P:=[RI.cU x.id (ids.map rF),Pt n 137 x.pv,bV x.al es ms]) h3
  have T_:ids.map (pZ e)=A++pZ e z::B:=JK hI.up eA λy hy=>by unfold pZ;rw[if_neg (by rw[<- HH];exact hy)]
  have haz:fC (pZ e z)=RT.At z.2.1 (bq aA aH e.tag z.2.2):=by unfold fC pZ;rw[if_pos HH]
  refine⟨_,_,rfl,λ_ u=>∃jP,kJ (bq aA aH e.tag es) jP/\Ow (an n x es ms jP::RT.At x.el (bq aA aH e.tag es)::L) u,ab.t rfl ?_,?_⟩
  ·refine RT.ia (l:=z.2.2) h4 Zq (by omega) e λu5 h5=>⟨_,rfl,RT.K_ h5 ⟨_,rfl,?_⟩⟩
   have afp:bq RT.ck RT.key (RT.key e) z.2.2=bq aA aH e.tag z.2.2:=rfl
   rw[afp]at h5 |-
   have afw:∀y∈ids,(pZ e y).2.2=(bq aA aH e.tag es).filter λe'=>gf e'.id y.1:=λy hy=>by
    rw[Nd,<- hI.has y hy]
    unfold pZ
    by_cases h:y.1=e.id
    ·rw[if_pos h]
    ·rw[if_neg h]
     symm
     refine List.filter_eq_self.2 λe' OO=>?_
     rw[hI.has y hy]at OO
     obtain⟨h1,h2⟩:=List.mem_filter.1 OO
     simp only[DQ,Bool.not_eq_true',decide_eq_false_iff_not,ax.zero]
     intro ht
     have:e'=e:=hA.ua.inj ax h1 he ht
     rw[this]at h2
     exact h (cF.1 h2).symm
   refine ab.mk (λh0=>?_) (λh0=>?_)
   ·have vV:bq aA aH e.tag z.2.2=[]:=by
     refine List.eq_nil_of_length_eq_zero ?_
     have:((((bq aA aH e.tag z.2.2).length:Nat):Int) == 0)=true:=h0
     simpa using this
    refine⟨_,h5.rd 2 rfl (by simp),?_⟩
    have h6:Ow (RI.cU x.id (ids.map rF)::Pt n 137 x.pv::bV x.al es ms::((A.map fC++B.map fC)++(RT.At x.el (bq aA aH e.tag es)::L))) u5:=h5.drop
    have ai5:bq gN lG e.id ids=A++B:=by
     obtain⟨A',B',e1,e2,_⟩:=hI.up.at_ bX RE
     have e3:bq gN lG e.id ids=A'++B':=by rw[<- HH];exact e2
     have BW:∀y,y∈A++B↔y∈A'++B':=λy=>by
      rw[<- e3,eF bX]
      have hu:=hI.up
      rw[eA]at hu
      constructor
      ·intro hyA
       refine⟨by rw[eA];rcases List.mem_append.1 hyA with h|h<;>simp[h],λh=>?_⟩
       have hyz:y=z:=hI.up.inj bX (by rw[eA];rcases List.mem_append.1 hyA with h|h<;>simp[h]) RE (by rw[h];exact HH.symm)
       subst hyz
       rcases List.mem_append.1 hyA with h|h
       ·have:=(List.pairwise_append.1 hu).2.2 y h y (by simp)
        exact absurd this (by rw[bX.self];omega)
       ·have:=(List.pairwise_cons.1 (List.pairwise_append.1 hu).2.1).1 y h
        exact absurd this (by rw[bX.self];omega)
      ·rintro⟨h1,h2⟩
       rw[eA,List.mem_append,List.mem_cons]at h1
       rcases h1 with h|h|h
       ·simp[h]
       ·rw[h]at h2;exact absurd HH h2
       ·simp[h]
     have huA:ca gN lG (A++B):=List.Pairwise.sublist (by rw[eA];exact(List.sublist_cons_self z B).append_left A) hI.up
     have aip:ca gN lG (A'++B'):=by rw[<- e3];exact hI.up.del _
     rw[e3]
     exact(ca.ext bX huA aip BW).symm
    refine RI.jA h6 hI.u (by simp;omega) e.id (λy2 u6 HI h7=>⟨_,_,rfl,bq gN lG e.id ids,?_,?_⟩) (λu6 HI h7=>?_)
    ·refine kJ.mk2 (hI.up.del _) (λy hy=>?_) (λe' OO=>?_) (λy hy=>?_)
     ·obtain⟨OG,HI⟩:=(eF bX).1 hy
      have:=afw y OG
      unfold pZ at this
      rw[if_neg (show ¬y.1=e.id from HI)]at this;exact this
     ·obtain⟨h1,h2⟩:=(eF ax).1 OO
      obtain⟨y,hy,TA⟩:=hI.one e' h1
      refine⟨y,(eF bX).2 ⟨hy,λh=>?_⟩,TA⟩
      have hyz:y=z:=hI.up.inj bX hy RE (by rw[h];exact HH.symm)
      have h3:e'∈bq aA aH e.tag z.2.2:=by
       refine(eF ax).2 ⟨?_,h2⟩
       rw[hI.has z RE,<- hyz]
       exact List.mem_filter.2 ⟨h1,by rw[TA];exact Co _⟩
      rw[vV]at h3;cases h3
     ·exact hI.some_ y ((eF bX).1 hy).1
    ·have e4:bq RI.ck RI.key (RI.key (e.id,RI.z)) (ids.map rF)=(bq gN lG e.id ids).map rF:=sX
     rw[e4]at h7
     refine an.MK ?_
     rw[ai5]at h7 |-
     rw[List.map_append (f:=fC)];exact h7
    ·exfalso
     rw[Na,hz]at HI;cases HI
   ·have aT:bq aA aH e.tag z.2.2≠[]:=by
     intro h
     have:((((bq aA aH e.tag z.2.2).length:Nat):Int) == 0)=false:=h0
     rw[h]at this;cases this
    refine⟨ids.map (pZ e),?_,?_⟩
    ·refine kJ.mk2 (ca.map (f:=pZ e) (by rw[show(λy=>lG (pZ e y))=lG from funext λy=>(CI e y).1];exact hI.up)) (λy hy=>?_) (λe' OO=>?_) (λy hy=>?_)
     ·obtain⟨y,ML,rfl⟩:=List.mem_map.1 hy
      rw[(CI e y).1];exact afw y ML
     ·obtain⟨y,hy,TA⟩:=hI.one e' ((eF ax).1 OO).1
      exact⟨pZ e y,List.mem_map_of_mem hy,(CI e y).1.trans TA⟩
     ·obtain⟨y,ML,rfl⟩:=List.mem_map.1 hy
      by_cases h:y.1=e.id
      ·have hyz:y=z:=hI.up.inj bX ML RE (by show y.1=z.1;rw[h,HH])
       subst hyz
       unfold pZ;rw[if_pos h];exact aT
      ·unfold pZ;rw[if_neg h];exact hI.some_ y ML
    ·refine an.MK ?_
     rw[Xa,T_,List.map_append,List.map_cons,haz]
     exact Ow.vl (P:=[RI.cU x.id (ids.map rF),Pt n 137 x.pv,bV x.al es ms]) h5
  ·rintro _ u5 ⟨jP,eU,h5⟩
   refine⟨_,aE (an.qz (x:=x) (es:=es) (ms:=ms) (ids:=jP) h5 (by simp)) (by simp),?_⟩
   refine acA (an.alpha h5) hA e.tag (λhs=>by rw[Fc]at hs;cases hs) λe2 he2 u6 f h6=>⟨_,_,_,rfl,?_⟩
   rw[Fc]at he2;cases he2
   refine hk (ms.map (rM e.tag)) jP f u6 (hA.rM e.tag) eU (gE.map λy=>⟨rfl,rfl,rfl⟩) ?_
   exact an.back h6
 ·exfalso
  rw[Na]at hy
  obtain⟨y,OG,HI⟩:=hI.one e he
  exact(bx bX).1 (map_none hy) y OG HI
end
end Go.Proofs.YtbodiiomcfgokaaGreat
