import Derived.Test.YtbodiiomcfgokaaGreatB11
open Go.IntKind (wrap)
open List (append_assoc append_inj' append_nil append_of_mem count_append filter_cons filter_eq_self flatMap_cons getElem?_eq_getElem getElem_map getElem_mem length_append length_cons length_filter_le length_map length_singleton length_take map_append map_congr_left map_cons map_id map_nil mem_append mem_cons mem_filter mem_flatMap mem_map mem_map_of_mem mem_singleton nodup_append nodup_cons pairwise_append prefix_append prefix_refl sum_cons take_add_one take_length take_take)
open Nat (beq le_refl le_trans min_eq_left)
set_option linter.all false
namespace Go.Proofs.YtbodiiomcfgokaaGreat
open Go.Proofs.Tryz Go.aP Go.RowKit
def iB(c:ae)(f:Fl)(aB:List Int):lW:=⟨c,.sh,.sh,.sh,none,0,0,f,aB,.nil,[],.nil,[],0,.nil,[],.nil,[]⟩
theorem Sh(c:ae):[[pI c.kind,pB c.goal,pS c.id,.list 6 .sh (c.attr.map Test.pv),.list 6 .sh (c.value.map Test.pv),pB c.acc,.list 7 .sh (c.conds.map ae.pv)]]=[c].map ae.pv:=by rw[map_cons,map_nil,ae.cH]
theorem aco{es:List aj}{ms:dg}{l:List Int}{j:Int}{d:ae}(h:fi es ms l)(hm:dB ms j d):0<=j:=by
 obtain⟨y,hy,_⟩:=hm;obtain⟨h1,h2⟩:=(a_ ar h.inv.mX).1 hy;have:=(h.inv.num y h1).1;have h2:y.1=j:=h2;omega
section
variable {n:Nat} {x:NC} {es:List aj} {ids:pq}
theorem ZO{ms:dg}{l:List Int}(hU:fi es ms l)(hl:l.length<=800000)(c:ae)(aI:tc c)(hs:aO c<=100)(fa fv fc:Fl){L:List aR}{μ:Mem}(hO:Ow (an n x es ms ids::L) μ){K:Kq}
  (hk:∀xb f cu aB,fi es cu (aB++l)->aB.length=aO c->ki cu aB 0 c->iq ms cu->(∀j∈aB,-1<=j)->∀μ',Ow (an n x es cu ids::Pt xb 156 (iB c f aB).pv::L) μ'->K (pP xb 0) μ'):
  aa prog 104 [pP n 0,.agg [pI c.kind,pB c.goal,pS c.id,.list 6 fa (c.attr.map Test.pv),.list 6 fv (c.value.map Test.pv),pB c.acc,.list 7 fc (c.conds.map ae.pv)]] μ K:=by
 obtain⟨hY,RE,Mr⟩:=(mG _).1 aI;have Kb:=bN c;have hcp:=Uq .sh .sh .sh c (by omega) hY;rw[ae.cH]at hcp;have oA:cX [c] 0 0=gD c 0 0:=by simp[cX]
 refine zj.c λb2 qv=>hcp.call ⟨_,_,_,_,_,_,_,_,_,_,rfl,λtS ahv b5 TA=>?_⟩;have O1:=hO.new 39 [pP n 0] qv;have O2:=O1.new 156 (iB c .nil []).pv ahv;have O3:=O2.new 131 [.raw (.pointer none)] TA;refine O3.st 0 rfl (by simp) λu h=>?_;have h0:Ow (Pt tS 156 (iB c .nil []).pv::an n x es ms ids::Pt b5 131 [pP tS 0]::Pt b2 39 [pP n 0]::L) u:=Ow.ord [1,2,0] h;have h1:Ow (an n x es ms ids::Pt tS 156 (iB c .nil []).pv::e_ .nil 0 1::Pt b5 131 [pP tS 0]::Pt b2 39 [pP n 0]::L) u:=(Ow.swap h0).tail λ_ h=>h.tail λ_ h=>h.nil (.inl rfl);rw[Sh];refine(aeb .nr [c]).call ⟨_,_,_,rfl,?_⟩;have Zi:((cX [c] 0 0).map λx=>[pI (x.1:Nat),.agg x.2.2.pv]).length=aO c:=by rw[length_map,oA,nu]
 refine bu.own (gG.ofP (Ue [c] (by simp only[ah];omega))) (ain h1)
  (λk u=>∃f cu aB,(aB.length=k/\(fi es cu (aB++l)/\∀j∈aB,-1<=j)/\iq ms cu/\(∀(q:Nat) (y:Nat×Nat×ae),(gD c 0 0)[q]?=some y->∀hq:q<aB.length,y.2.2.kind=3\/dB cu aB[q] y.2.2))/\Ow (an n x es cu ids::Pt tS 156 (iB c f aB).pv::e_ f aB.length 1::Pt b5 131 [pP tS 0]::Pt b2 39 [pP n 0]::L) u)
  (λ_ _=>False) (λk=>eC.ex λ_=>eC.ex λ_=>eC.ex λ_=>eC.and (eC.own _)) (λ_ _ _ _ h=>h.elim) (λμ' h'=>⟨.nil,ms,[],⟨rfl,⟨hU,by simp⟩,iq.refl ms,λq y _ hq=>by simp at hq⟩,h'.drop⟩) ?_ ?_ (λ_ _ h=>h.elim)
 ·rintro k hk u R ⟨f,cu,aB,⟨pG,⟨Vt,wH⟩,hK,hm⟩,pH⟩ ca _;have bZ:k<(gD c 0 0).length:=by rw[<- oA];simpa using hk
  have qt:k<aO c:=by rw[<- nu c 0 0];exact bZ
  have e0:((cX [c] 0 0).map λx=>[pI (x.1:Nat),.agg x.2.2.pv])[k]=[pI ((gD c 0 0)[k].1:Nat),.agg (gD c 0 0)[k].2.2.pv]:=by
   rw[getElem_map];simp only[oA]
  rw[e0,ae.cH];have nE:(gD c 0 0)[k]?=some (gD c 0 0)[k]:=getElem?_eq_getElem bZ;generalize hy:(gD c 0 0)[k]=y at nE;have NV:cW y.2.2:=AY c 0 0 y hY (by rw[<- hy];exact getElem_mem bZ);have qn:∀{f:Fl} {m2:dg} {j:Int} {u:Mem} {Kx:Fl->Mem->Prop},Ow (an n x es m2 ids::Pt tS 156 (iB c f aB).pv::e_ f aB.length 1::Pt b5 131 [pP tS 0]::Pt b2 39 [pP n 0]::L) u->(∀f' u',Ow (e_ f' (aB.length+1) 1::an n x es m2 ids::Pt tS 156 (iB c f aB).pv::Pt b5 131 [pP tS 0]::Pt b2 39 [pP n 0]::L) u'->Kx f' u')->aT false 1 8 f (aB.map gq) [[pI j]] u Kx:=λ{f m2 j u Kx} h hK=>by
   have h':Ow (e_ f aB.length 1::an n x es m2 ids::Pt tS 156 (iB c f aB).pv::Pt b5 131 [pP tS 0]::Pt b2 39 [pP n 0]::L) u:=Ow.ord [2] h;exact h'.app (by simp) (by simp;omega) (by simp;omega) λf' u' h2=>hK f' u' h2
  have WL:∀{f f':Fl} {m2:dg} {j:Int} {u:Mem} {Kx:Mem->Prop},Ow (e_ f' (aB.length+1) 1::an n x es m2 ids::Pt tS 156 (iB c f aB).pv::Pt b5 131 [pP tS 0]::Pt b2 39 [pP n 0]::L) u->(∀u',Ow (an n x es m2 ids::Pt tS 156 (iB c f' (aB++[j])).pv::e_ f' (aB++[j]).length 1::Pt b5 131 [pP tS 0]::Pt b2 39 [pP n 0]::L) u'->Kx u')->stM tS 8 [.list 1 f' (aB.map gq++[[pI j]])] u Kx:=λ{f f' m2 j u Kx} h hK=>by
   refine h.st 2 rfl (by simp) λu' h2=>hK u' ?_;have e:dx (iB c f aB).pv 8 [.list 1 f' (aB.map gq++[[pI j]])]=(iB c f' (aB++[j])).pv:=by
    simp only[iB,lW.pv,map_append];rfl
   rw[e]at h2;rw[show(aB++[j]).length=aB.length+1 from by simp];exact Ow.ord [1,1,0] h2
  have fin:∀{f':Fl} {m2:dg} {j:Int} {u:Mem},(0<=j/\fi es m2 (j::(aB++l)))\/(j= -1/\fi es m2 (aB++l))->iq cu m2->(y.2.2.kind=3\/dB m2 j y.2.2)->Ow (an n x es m2 ids::Pt tS 156 (iB c f' (aB++[j])).pv::e_ f' (aB++[j]).length 1::Pt b5 131 [pP tS 0]::Pt b2 39 [pP n 0]::L) u->R none u:=λ{f' m2 j u} hu eK hmj h=>by
   refine ca _ ⟨f',m2,aB++[j],⟨by simp[pG],⟨?_,λj' Jd=>?_⟩,hK.trans eK,λq z hz hq=>?_⟩,h⟩
   ·rcases hu with⟨_,hu⟩|⟨rfl,hu⟩
    ·exact hu.perm (by simpa using(List.perm_middle (a:=j) (l₁:=aB) (l₂:=l)).symm)
    ·refine hu.as λk hk=>?_;rw[count_append,count_append,count_append,List.count_cons,if_neg (by simp;omega)];simp
   ·rcases mem_append.1 Jd with Jd|Jd
    ·exact wH j' Jd
    ·simp only[mem_singleton]at Jd;subst Jd;rcases hu with⟨h0,_⟩|⟨rfl,_⟩<;>omega
   ·by_cases hql:q<aB.length
    ·rw[List.getElem_append_left hql];exact(hm q z hz hql).imp id (eK _ _)
    ·have hqk:q=aB.length:=by simp at hq;omega
     subst hqk;rw[pG,nE]at hz;cases hz;rw[List.getElem_append_right (by omega)];simpa using hmj
  refine⟨_,_,_,_,_,_,_,_,_,_,_,rfl,ab.mk (λh3=>?_) (λh3=>?_)⟩
  ·have Xr:y.2.2.kind=3:=by simpa using h3
   have lf:∀{f' u'} (_:Ow (e_ f' (aB.length+1) 1::an n x es cu ids::Pt tS 156 (iB c f aB).pv::Pt b5 131 [pP tS 0]::Pt b2 39 [pP n 0]::L) u'),stM tS 8 [.list 1 f' (aB.map gq++[[pI (-1)]])] u' λTP=>R none TP:=λh=>WL h λTP h'=>fin (.inr ⟨rfl,Vt⟩) (iq.refl _) (.inl Xr) h';refine⟨_,pH.rd 3 rfl (by simp),_,_,pH.rd 1 rfl (by simp[iB]),⟨_,pH.rd 3 rfl (by simp),⟨qn pH λf' u' h=>⟨lf h,trivial⟩,trivial⟩,trivial⟩,⟨qn pH λf' u' h=>⟨_,h.rd 3 rfl (by simp),lf h,trivial⟩,trivial⟩,trivial⟩
  ·have dA:∀{u:Mem} {Kx:Kq},Ow (an n x es cu ids::Pt tS 156 (iB c f aB).pv::e_ f aB.length 1::Pt b5 131 [pP tS 0]::Pt b2 39 [pP n 0]::L) u->(∀j m2,fi es m2 (j::(aB++l))->iq cu m2->dB m2 j y.2.2->∀u',Ow (an n x es m2 ids::Pt tS 156 (iB c f aB).pv::e_ f aB.length 1::Pt b5 131 [pP tS 0]::Pt b2 39 [pP n 0]::L) u'->Kx (pI j) u')->aa prog 166 [pP x.al 0,.agg [pI y.2.2.kind,pB y.2.2.goal,pS y.2.2.id,.list 6 .sh (y.2.2.attr.map Test.pv),.list 6 .sh (y.2.2.value.map Test.pv),pB y.2.2.acc,.list 7 .sh (y.2.2.conds.map ae.pv)]] u Kx:=λh hK=>ZP Vt (by rw[length_append];omega) y.2.2 NV h λj m2 a1 a2 a3 u' h'=>hK j m2 a1 a3 a2 u' h';have lf:∀{f' u' j m2} (_:fi es m2 (j::(aB++l))) (_:iq cu m2) (_:dB m2 j y.2.2) (_:Ow (e_ f' (aB.length+1) 1::an n x es m2 ids::Pt tS 156 (iB c f aB).pv::Pt b5 131 [pP tS 0]::Pt b2 39 [pP n 0]::L) u'),stM tS 8 [.list 1 f' (aB.map gq++[[pI j]])] u' λTP=>R none TP:=λa1 a2 a3 h=>WL h λTP h'=>fin (.inl ⟨aco a1 a3,a1⟩) a2 (.inr a3) h';refine⟨_,pH.rd 4 rfl (by simp),_,aJ (an.xp (x:=x) (es:=es) (ms:=cu) (ids:=ids) pH (by simp)) (by simp),?_,?_,?_,trivial⟩
   ·refine⟨_,pH.rd 3 rfl (by simp),⟨_,pH.rd 3 rfl (by simp),⟨_,_,pH.rd 1 rfl (by simp[iB]),dA pH λj m2 a1 a2 a3 u' h=>⟨_,rfl,⟨qn h λf' u2 h2=>⟨lf a1 a2 a3 h2,trivial⟩,trivial⟩,trivial⟩,trivial⟩,dA pH λj m2 a1 a2 a3 u' h=>⟨_,rfl,_,_,h.rd 1 rfl (by simp[iB]),⟨qn h λf' u2 h2=>⟨lf a1 a2 a3 h2,trivial⟩,trivial⟩,trivial⟩,trivial⟩,dA pH λj m2 a1 a2 a3 u' h=>⟨_,rfl,_,h.rd 3 rfl (by simp),_,_,h.rd 1 rfl (by simp[iB]),⟨qn h λf' u2 h2=>⟨lf a1 a2 a3 h2,trivial⟩,trivial⟩,trivial⟩,trivial⟩
   ·refine⟨_,pH.rd 3 rfl (by simp),⟨_,_,pH.rd 1 rfl (by simp[iB]),dA pH λj m2 a1 a2 a3 u' h=>⟨_,rfl,⟨_,h.rd 3 rfl (by simp),⟨qn h λf' u2 h2=>⟨lf a1 a2 a3 h2,trivial⟩,trivial⟩,trivial⟩,⟨qn h λf' u2 h2=>⟨_,h2.rd 3 rfl (by simp),lf a1 a2 a3 h2,trivial⟩,trivial⟩,trivial⟩,trivial⟩,dA pH λj m2 a1 a2 a3 u' h=>⟨_,rfl,_,_,h.rd 1 rfl (by simp[iB]),⟨_,h.rd 3 rfl (by simp),⟨qn h λf' u2 h2=>⟨lf a1 a2 a3 h2,trivial⟩,trivial⟩,trivial⟩,⟨qn h λf' u2 h2=>⟨_,h2.rd 3 rfl (by simp),lf a1 a2 a3 h2,trivial⟩,trivial⟩,trivial⟩,trivial⟩
   ·exact dA pH λj m2 a1 a2 a3 u' h=>⟨_,rfl,_,h.rd 3 rfl (by simp),_,_,h.rd 1 rfl (by simp[iB]),⟨_,h.rd 3 rfl (by simp),⟨qn h λf' u2 h2=>⟨lf a1 a2 a3 h2,trivial⟩,trivial⟩,trivial⟩,⟨qn h λf' u2 h2=>⟨_,h2.rd 3 rfl (by simp),lf a1 a2 a3 h2,trivial⟩,trivial⟩,trivial⟩
 ·rintro u ⟨f,cu,aB,⟨pG,⟨Vt,wH⟩,hK,hm⟩,pH⟩;rw[Zi]at pG;dsimp only[PK];refine⟨_,pH.rd 3 rfl (by simp),hk tS f cu aB Vt pG (Vz c 0 0 aI (λq y hy=>?_) λq y hy h3 h=>by omega) hK wH u ?_⟩
  ·have hq:q<(gD c 0 0).length:=(List.getElem?_eq_some_iff.1 hy).1;rw[nu]at hq;refine⟨by omega,?_⟩;simp only[Nat.zero_add];exact hm q y hy (by omega)
  ·exact pH.tail λ_ h=>h.tail λ_ h=>h.drop.drop.drop
theorem MH{ms:dg}{l:List Int}{xb:Nat}(d:lW)(hU:fi es ms (d.aB++l))(hd:d.aB.length<=1000){L:List aR}{μ:Mem}(hO:Ow (an n x es ms ids::Pt xb 156 d.pv::L) μ){K:Kq}
  (hk:∀cu,fi es cu l->(∀j d,j∈l->dB ms j d->dB cu j d)->∀μ',Ow (an n x es cu ids::Pt xb 156 d.pv::L) μ'->K (.az []) μ'):aa prog 106 [pP n 0,pP xb 0] μ K:=by
 refine xZ.c ⟨_,_,hO.rd 1 rfl (by simp),?_⟩;refine ak.each (n:=d.aB.length) (by omega) (λk u=>∃cu,(fi es cu (d.aB.drop k++l)/\(∀j d,j∈l->dB ms j d->dB cu j d))/\Ow (an n x es cu ids::Pt xb 156 d.pv::L) u) ⟨ms,⟨by simpa using hU,λj d _ h=>h⟩,hO⟩ ?_ ?_
 ·rintro k u next bZ ⟨cu,⟨Vt,hK⟩,h⟩ av
  refine ab.t (by simpa using bZ) ⟨by omega,_,tj bZ,_,rfl,?_⟩;refine⟨_,aJ (an.xp (x:=x) (es:=es) (ms:=cu) (ids:=ids) h (by simp)) (by simp),VU Vt (l':=d.aB.drop (k+1)++l) (λj=>?_) h λb m2 hU2 hK2 u2 h2=>⟨_,rfl,av _ ⟨m2,⟨hU2,λj d hj hm=>hK2 j d (by simp[hj]) (hK j d hj hm)⟩,h2⟩⟩⟩;rw[List.drop_eq_getElem_cons bZ,count_append,count_append,List.count_cons];by_cases e:j=d.aB[k]
  ·rw[if_pos (by simp[e]),if_pos e];omega
  ·rw[if_neg (by simpa using Ne.symm e),if_neg e];omega
 ·rintro u next ⟨cu,⟨Vt,hK⟩,h⟩
  refine ab.f (by simp) ?_;rw[List.drop_length]at Vt;exact hk cu (by simpa using Vt) hK u h
end
namespace RN
abbrev El:={n:Int // -1<=n/\n<1000000}
@[reducible] def pv(x:El):List PV:=[pI x.1]
@[reducible] def arg(x:El):PV:=pI x.1
def key(x:El):Int:=x.1
def ck(a b:Int):Int:=a-b
theorem hc:m_ ck:=⟨λa b=>by unfold ck;omega,λa b=>by unfold ck;omega,λa b d h k=>by unfold ck at *;omega⟩
theorem tR(a b:El):Pure prog 332 [arg a,arg b] (pI (ck (key a) (key b))):=by
 refine au.of (pw.c ?_);obtain⟨a,ha⟩:=a;obtain⟨b,hb⟩:=b;show _=pI (a-b);simp only[wk,bU];rw[aD (by omega) (by omega)]
@[reducible] noncomputable def D:SD:=⟨prog,256,179,1,8,332,λQ=>∃x,Q [pI x],λr=>r.headD .aY,[pI (0)]⟩
abbrev At(b:Nat)(l:List El):aR:=cb 256 179 1 b (l.map pv)
theorem mh:MX D pv arg key ck:=⟨λx Q h=>⟨_,h⟩,λ_=>rfl,λ_=>rfl,λ_=>rfl,λ_=>rfl,hc,tR,λv=>by kernel_rfl,rfl,by decide,by decide⟩
theorem dc{x:El}{a0:Option Addr}{u0:Mem}{K:Kq}(h:D.find a0 u0 K (arg x)):aa prog 158 [pA a0,arg x] u0 K:=VC [] [(2,⟨[(6,.one (.raw (.int .i64))),(7,.one (.raw (.int .i64)))],[]⟩)] [] [] [] [] [] func158 h
theorem EP{x:El}{a0:Option Addr}{u0:Mem}{K:Kq}(h:D.place a0 u0 K (arg x) 158):aa prog 220 [pA a0,arg x] u0 K:=VC [] [] [] [] [] [] [] func220 h
def qH:=mh.qH dc EP
theorem gK{a0:Option Addr}{u0:Mem}{K:Kq}(h:D.own a0 u0 K):aa prog 159 [pA a0] u0 K:=VC [] [] [] [] [] [] [] func159 h
theorem lD{x:El}{a0:Option Addr}{u0:Mem}{K:Kq}(h:D.put a0 u0 K (pv x) (arg x) 158 159):aa prog 97 [pA a0,arg x] u0 K:=VC [] [(9,⟨[(7,.one (.raw (.int .i64)))],[]⟩)] [] [] [] [] [23,32,43,48,57] func97 h
def fL:=mh.fL dc gK lD
theorem lE{fl:Fl}{l:Lq}{u0:Mem}{K:Kq}(h:D.new u0 K 97 l):aa prog 95 [.list 1 fl l] u0 K:=VC [] [(3,⟨[(10,.one (.raw (.int .i64)))],[]⟩)] [] [] [] [] [] func95 h
def gj:=mh.gj fL lE
end RN
def oo{α:Type}(f:α->α->Bool):List α->List α->Bool
 |[],[]=>true
 |a::l,b::r=>f a b&&oo f l r
 |_,_=>false
theorem tq{α:Type}{f:α->α->Bool}(h:∀a b,f a b=true↔a=b):∀a b:List α,oo f a b=true↔a=b
 |[],[]=>by simp[oo]
 |[],b::r=>by simp[oo]
 |a::l,[]=>by simp[oo]
 |a::l,b::r=>by simp only[oo,Bool.and_eq_true,h,tq h l r,List.cons.injEq]
def Ua(a b:Sym):Bool:=eU a b
theorem uI(a b:Sym):Ua a b=true↔a=b:=cz
def Et(a b:Test):Bool:=(a.rel == b.rel)&&(aF a.var b.var&&(Ua a.sym b.sym&&oo Ua a.list b.list))
theorem Js(a b:Test):Et a b=true↔a=b:=by
 unfold Et;obtain⟨r,v,s,l⟩:=a;obtain⟨r',v',s',l'⟩:=b;simp only[Bool.and_eq_true,beq_iff_eq,bF,uI,tq uI,Test.mk.injEq]
mutual
def eqC:ae->ae->Bool
 | .mk k g i a v ac cs,d=>(k == d.kind)&&((g == d.goal)&&(aF i d.id&&(oo Et a d.attr&&(oo Et v d.value&&((ac == d.acc)&&eqL cs d.conds)))))
def eqL:List ae->List ae->Bool
 |[],ds=>ds.isEmpty
 |c::cs,ds=>match ds with|[]=>false|d::ds=>eqC c d&&eqL cs ds
end
mutual
theorem FG:∀(c d:ae),eqC c d=true↔c=d
 | .mk k g i a v ac cs,.mk k' g' i' a' v' ac' Oy=>by
   simp only[eqC,ae.kind,ae.goal,ae.id,ae.attr,ae.value,ae.acc,ae.conds,Bool.and_eq_true,beq_iff_eq,bF,tq Js,MA cs,ae.mk.injEq]
theorem MA:∀(cs ds:List ae),eqL cs ds=true↔cs=ds
 |[],ds=>by simp only[eqL,List.isEmpty_iff];exact eq_comm
 |c::cs,[]=>by simp[eqL]
 |c::cs,d::ds=>by simp only[eqL,Bool.and_eq_true,FG c,MA cs,List.cons.injEq]
end
instance decCond:DecidableEq ae:=λc d=>if h:eqC c d=true then isTrue ((FG c d).1 h)else isFalse λe=>h ((FG c d).2 e)
abbrev Path:=List ae
structure Tree where
 D:List Path
 B:Path->Nat
 M:Path->List Int
 E:Path->Nat
 K:Path->List ae
 S:Path->Option Addr×Nat
def GF:ae:=.mk 0 false ⟨#[]⟩ [] [] false []
def HD(p:Path):ae:=p.getLast?.getD GF
@[simp] theorem ot(p:Path)(c:ae):HD (p++[c])=c:=by simp[HD]
structure Fls where
 a:Fl
 v:Fl
 c:Fl
 m:Fl
 t:Fl
 k:Fl
 f:Fl
 q:Fl
@[reducible] def gz(T:Tree)(tk:Path->List bW)(ct:Path->List Nat)(fr:Path->List bW)(mn:Path->List Nat)(p:Path)(F:Fls):lW:=⟨HD p,F.a,F.v,F.c,(T.S p).1,(T.K p).length,(T.S p).2,F.m,T.M p,F.t,tk p,F.k,ct p,(T.E p:Nat),F.f,fr p,F.q,mn p⟩
@[reducible] def gU(T:Tree)(p:Path):Lq:=(T.K p).map λc=>[pP (T.B (p++[c])) 0]
@[reducible] def Gv(T:Tree)(p:Path):aR:=cA 131 1 (.raw (.slice (T.S p).1 (T.K p).length (T.S p).2)) (gU T p)
def dU(T:Tree)(tk:Path->List bW)(ct:Path->List Nat)(fr:Path->List bW)(mn:Path->List Nat)(p:Path):aR:=λμ=>∃F,Ow [Pt (T.B p) 156 (gz T tk ct fr mn p F).pv,Gv T p] μ
def cg(T:Tree)(tk:Path->List bW)(ct:Path->List Nat)(fr:Path->List bW)(mn:Path->List Nat):aR:=Ow (T.D.map (dU T tk ct fr mn))
section
variable {T:Tree} {tk:Path->List bW} {ct:Path->List Nat} {fr:Path->List bW} {mn:Path->List Nat} {L:List aR} {μ:Mem}
theorem cg.out{p:Path}(hp:p∈T.D)(h:Ow (cg T tk ct fr mn::L) μ):∃A B F,T.D=A++p::B/\Ow (Pt (T.B p) 156 (gz T tk ct fr mn p F).pv::Gv T p::Ow ((A++B).map (dU T tk ct fr mn))::L) μ:=by
 obtain⟨A,B,e⟩:=append_of_mem hp;unfold cg at h;rw[e,map_append,map_cons]at h;have h1:Ow (dU T tk ct fr mn p::Ow ((A++B).map (dU T tk ct fr mn))::L) μ:=by
  have h2:=h.nest;rw[append_assoc]at h2;have h3:Ow (dU T tk ct fr mn p::(A.map (dU T tk ct fr mn)++(B.map (dU T tk ct fr mn)++L))) μ:=Ow.wF (L1:=A.map (dU T tk ct fr mn)) h2;refine h3.tail λν hν=>Ow.pack ?_;rw[map_append,append_assoc];exact hν
 obtain⟨F,h2⟩:=Ow.ex h1;exact⟨A,B,F,e,h2.nest (L1:=[Pt (T.B p) 156 (gz T tk ct fr mn p F).pv,Gv T p])⟩
theorem cg.in_{p:Path}{A B:List Path}(e:T.D=A++p::B){F:Fls}(h:Ow (Pt (T.B p) 156 (gz T tk ct fr mn p F).pv::Gv T p::Ow ((A++B).map (dU T tk ct fr mn))::L) μ):Ow (cg T tk ct fr mn::L) μ:=by
 have h1:Ow (Ow [Pt (T.B p) 156 (gz T tk ct fr mn p F).pv,Gv T p]::Ow ((A++B).map (dU T tk ct fr mn))::L) μ:=Ow.pack (L1:=[Pt (T.B p) 156 (gz T tk ct fr mn p F).pv,Gv T p]) h;have h2:Ow (dU T tk ct fr mn p::Ow ((A++B).map (dU T tk ct fr mn))::L) μ:=h1.imp λν hν=>⟨F,hν⟩;unfold cg;rw[e,map_append,map_cons];refine Ow.pack ?_;rw[append_assoc];refine Ow.Ls (L1:=A.map (dU T tk ct fr mn)) (L:=B.map (dU T tk ct fr mn)++L) (h2.tail λν hν=>?_);have h3:=hν.nest;rw[map_append,append_assoc]at h3;exact h3
theorem cg.congr{wE:Path->List bW}{yO:Path->List Nat}{nH:Path->List bW}{mZ:Path->List Nat}{A:List Path}(h:∀q∈A,wE q=tk q/\yO q=ct q/\nH q=fr q/\mZ q=mn q):A.map (dU T wE yO nH mZ)=A.map (dU T tk ct fr mn):=
 map_congr_left λq hq=>by
  obtain⟨h1,h2,h3,h4⟩:=h q hq;unfold dU gz;rw[h1,h2,h3,h4]
theorem cg.set{wE:Path->List bW}{yO:Path->List Nat}{nH:Path->List bW}{mZ:Path->List Nat}{p:Path}{A B:List Path}(hn:T.D.Nodup)(e:T.D=A++p::B){F:Fls}(hq:∀q∈T.D,q≠p->wE q=tk q/\yO q=ct q/\nH q=fr q/\mZ q=mn q)
  (h:Ow (Pt (T.B p) 156 (gz T wE yO nH mZ p F).pv::Gv T p::Ow ((A++B).map (dU T tk ct fr mn))::L) μ):Ow (cg T wE yO nH mZ::L) μ:=by
 refine cg.in_ e (F:=F) ?_;rw[cg.congr (tk:=tk) (ct:=ct) (fr:=fr) (mn:=mn)]
 ·exact h
 ·intro q hm;refine hq q (by rw[e];rcases mem_append.1 hm with h|h<;>simp[h]) λeq=>?_;subst eq;rw[e]at hn;have:=nodup_append.1 hn;rcases mem_append.1 hm with h|h
  ·exact this.2.2 q h q (by simp) rfl
  ·exact(nodup_cons.1 this.2.1).1 h
theorem cg.same{wE:Path->List bW}{yO:Path->List Nat}{nH:Path->List bW}{mZ:Path->List Nat}(hq:∀q∈T.D,wE q=tk q/\yO q=ct q/\nH q=fr q/\mZ q=mn q)(h:Ow (cg T tk ct fr mn::L) μ):Ow (cg T wE yO nH mZ::L) μ:=by
 unfold cg at h |-;rw[cg.congr (tk:=tk) (ct:=ct) (fr:=fr) (mn:=mn) hq];exact h
theorem cg.rd{p:Path}(hp:p∈T.D)(h:Ow (cg T tk ct fr mn::L) μ):∃F:Fls,μ (T.B p)=some (.cells 156 (gz T tk ct fr mn p F).pv):=by
 obtain⟨A,B,F,e,h1⟩:=cg.out hp h;exact⟨F,h1.get 0 rfl⟩
theorem cg.kid{p:Path}(hp:p∈T.D)(h:Ow (cg T tk ct fr mn::L) μ){i:Nat}(hi:i<(T.K p).length):∃b,(T.S p).1=some ⟨b,0,none⟩/\ay μ b (0+i*1) 1=some [pP (T.B (p++[(T.K p)[i]])) 0]:=by
 obtain⟨A,B,F,e,h1⟩:=cg.out hp h;have hlen:i<(gU T p).length:=by simpa using hi
 obtain⟨b,ha,dS,_⟩:=cA.at_ 1 h1 rfl (λr hr=>by obtain⟨c,_,rfl⟩:=mem_map.1 hr;rfl) (j:=i) hlen;refine⟨b,ha,?_⟩;have:=dS 0 1 (by omega);simp only[getElem_map]at this;simpa using this
end
structure rE(T:Tree):Prop where
 nodup:T.D.Nodup
 root:[]∈T.D
 kids:∀p∈T.D,∀c,c∈T.K p↔p++[c]∈T.D
 HE:∀p∈T.D,(T.K p).Nodup
 up:∀p c,p++[c]∈T.D->p∈T.D
 len:∀p∈T.D,p.length<=16
 Yw:∀p∈T.D,ta p
 size:∀p∈T.D,ah p<=100
 ml:∀p c,p++[c]∈T.D->(T.M (p++[c])).length=aO c
 m0:T.M []=[]
 GC:T.D.length<=5000
 mge:∀p∈T.D,∀j∈T.M p,-1<=j
theorem nW{p:Path}(h:p≠[]):∃q c,p=q++[c]:=⟨p.dropLast,p.getLast h,(List.dropLast_concat_getLast h).symm⟩
theorem rE.pre{T:Tree}(h:rE T)(r s:Path):s++r∈T.D->s∈T.D:=by
 have key:∀(n:Nat) (r s:Path),r.length<=n->s++r∈T.D->s∈T.D:=by
  intro n;induction n with
  |zero=>
   intro r s hr hs;have:r=[]:=List.eq_nil_of_length_eq_zero (by omega);subst this;simpa using hs
  |succ n ih=>
   intro r s hr hs;by_cases e:r=[]
   ·subst e;simpa using hs
   ·obtain⟨q,c,rfl⟩:=nW e;rw[<- append_assoc]at hs;exact ih q s (by simp at hr;omega) (h.up _ _ hs)
 exact key r.length r s (le_refl _)
theorem rE.below{T:Tree}(h:rE T){p q:Path}(hp:p∈T.D)(hq:q∈T.D):(p <+: q/\q≠p)↔∃c∈T.K p,(p++[c]) <+: q:=by
 constructor
 ·rintro⟨⟨r,rfl⟩,aQ⟩;cases r with
  |nil=>simp at aQ
  |cons c r=>
   refine⟨c,(h.kids p hp c).2 ?_,⟨r,by simp⟩⟩;exact h.pre r (p++[c]) (by simpa using hq)
 ·rintro⟨c,hc,r,rfl⟩;exact⟨⟨c::r,by simp⟩,λe=>by have:=congrArg List.length e;simp at this⟩
theorem rE.Qp{T:Tree}(h:rE T){p q:Path}(hq:q∈T.D)(hp:p <+: q):p∈T.D:=by
 obtain⟨r,rfl⟩:=hp;exact h.pre r p hq
theorem NF{α:Type}[DecidableEq α]{a b:List α}(ha:a.Nodup)(hb:b.Nodup)(h:∀x,x∈a↔x∈b):a.length=b.length:=((List.perm_ext_iff_of_nodup ha hb).2 h).length_eq
def under(l:List ae)(p q:Path):Bool:=l.any λc=>decide ((p++[c]) <+: q)
def mix{α:Type}(l:List ae)(p:Path)(f g:Path->α):Path->α:=λq=>if under l p q then f q else g q
def aH{α:Type}(f:Path->α)(p:Path)(v:α):Path->α:=λq=>if q=p then v else f q
@[simp] theorem cy{α:Type}(f:Path->α)(p:Path)(v:α):aH f p v p=v:=by simp[aH]
theorem aW{α:Type}{f:Path->α}{p q:Path}{v:α}(h:q≠p):aH f p v q=f q:=by simp[aH,h]
theorem gl{l:List ae}{p q:Path}:under l p q=true↔∃c∈l,(p++[c]) <+: q:=by
 unfold under;rw[List.any_eq_true];simp
theorem rE.QT{T:Tree}(h:rE T){p:Path}(hp:p∈T.D){i:Nat}(hi:i<(T.K p).length):p++[(T.K p)[i]]∈T.D:=(h.kids p hp _).1 (getElem_mem hi)
theorem jl{α:Type}[DecidableEq α]:∀{a b:List α},a.Nodup->(∀x∈a,x∈b)->a.length<=b.length:=by
 intro a;induction a with
 |nil=>intro b _ _;exact Nat.zero_le _
 |cons x a ih=>
  intro b hn hs;obtain⟨h1,h2⟩:=nodup_cons.1 hn;have hx:=hs x (by simp);have:=ih (b:=b.erase x) h2 λy hy=>(List.mem_erase_of_ne (by rintro rfl;exact h1 hy)).2 (hs y (by simp[hy]));rw[List.length_erase_of_mem hx]at this;have hp:0<b.length:=List.length_pos_of_mem hx;simp only[length_cons];omega
theorem rE.kl{T:Tree}(h:rE T){p:Path}(hp:p∈T.D):(T.K p).length<=T.D.length:=by
 have hn2:((T.K p).map λc=>p++[c]).Nodup:=List.Pairwise.map _ (λa b yG e=>yG (by simpa using e)) (h.HE p hp);have h1:=jl hn2 (b:=T.D) λx hx=>by
  obtain⟨c,hc,rfl⟩:=mem_map.1 hx;exact(h.kids p hp c).1 hc
 simpa using h1
theorem PY{p q:Path}{c d:ae}(h1:(p++[c]) <+: q)(h2:(p++[d]) <+: q):c=d:=by
 have e2:p++[c]=p++[d]:=by
  rcases List.prefix_or_prefix_of_prefix h1 h2 with h3|h3
  ·exact h3.eq_of_length (by simp)
  ·exact(h3.eq_of_length (by simp)).symm
 simpa using e2
theorem rE.step{T:Tree}(h:rE T){p:Path}(hp:p∈T.D){i:Nat}(hi:i<(T.K p).length){q:Path}(hq:q∈T.D):
  (q=p++[(T.K p)[i]]/\under ((T.K p).take i) p q=false/\under (T.K (p++[(T.K p)[i]])) (p++[(T.K p)[i]]) q=false/\under ((T.K p).take (i+1)) p q=true)\/
  (q≠p++[(T.K p)[i]]/\under (T.K (p++[(T.K p)[i]])) (p++[(T.K p)[i]]) q=true/\under ((T.K p).take i) p q=false/\under ((T.K p).take (i+1)) p q=true)\/
  (q≠p++[(T.K p)[i]]/\under (T.K (p++[(T.K p)[i]])) (p++[(T.K p)[i]]) q=false/\under ((T.K p).take (i+1)) p q=under ((T.K p).take i) p q):=by
 have tC:=h.QT hp hi;have aQ:∀q,(p++[(T.K p)[i]]) <+: q->under ((T.K p).take i) p q=false:=λq hq=>by
  cases hu:under ((T.K p).take i) p q with
  |false=>rfl
  |true=>
   obtain⟨c,hc,h2⟩:=gl.1 hu;have e:=PY h2 hq;subst e;obtain⟨j,hj,e⟩:=List.mem_iff_getElem.1 hc;rw[List.getElem_take]at e;have hj2:j<i:=by rw[length_take]at hj;omega
   have:=(List.getElem_inj (h.HE p hp) (h₀:=by omega) (h₁:=hi)).1 e;omega
 have gf:under ((T.K p).take (i+1)) p q=(under ((T.K p).take i) p q||decide ((p++[(T.K p)[i]]) <+: q)):=by
  unfold under;rw[take_add_one,getElem?_eq_getElem hi,List.any_append];simp
 by_cases e:q=p++[(T.K p)[i]]
 ·left;have fK:(p++[(T.K p)[i]]) <+: q:=by rw[e];exact prefix_refl _
  refine⟨e,aQ q fK,?_,by rw[gf];simp[fK]⟩;cases hu:under (T.K (p++[(T.K p)[i]])) (p++[(T.K p)[i]]) q with
  |false=>rfl
  |true=>exact absurd e ((h.below tC hq).2 (gl.1 hu)).2
 ·right;by_cases fK:(p++[(T.K p)[i]]) <+: q
  ·left;exact⟨e,gl.2 ((h.below tC hq).1 ⟨fK,e⟩),aQ q fK,by rw[gf];simp[fK]⟩
  ·right;refine⟨e,?_,by rw[gf];simp[fK]⟩;cases hu:under (T.K (p++[(T.K p)[i]])) (p++[(T.K p)[i]]) q with
   |false=>rfl
   |true=>exact absurd ((h.below tC hq).2 (gl.1 hu)).1 fK
section
variable {T:Tree} {fr:Path->List bW} {mn:Path->List Nat}
theorem VK(h:rE T):∀(n:Nat) (p:Path) (tk:Path->List bW) (ct:Path->List Nat) (fr:Path->List bW) (mn:Path->List Nat),p∈T.D->17-p.length<=n->∀{L:List aR} {μ:Mem},Ow (cg T tk ct fr mn::L) μ->∀{K:Kq},(∀μ',Ow (cg T (mix (T.K p) p fr tk) (mix (T.K p) p mn ct) (mix (T.K p) p (λ_=>[]) fr) (mix (T.K p) p (λ_=>[]) mn)::L) μ'->K (.az []) μ')->aa prog 99 [pP (T.B p) 0] μ K:=by
 intro n;induction n with
 |zero=>intro p tk ct fr mn hp hn;have:=h.len p hp;omega
 |succ n ih=>
  intro p tk ct fr mn hp hn L μ hO K hk;obtain⟨F,hF⟩:=cg.rd hp hO;refine CQ.c ⟨_,_,_,aJ hF (by simp),?_⟩;have Gx:=h.kl hp;have CC:=h.GC
  ·refine ak.each (n:=(T.K p).length) (by omega) (λi u=>Ow (cg T (mix ((T.K p).take i) p fr tk) (mix ((T.K p).take i) p mn ct) (mix ((T.K p).take i) p (λ_=>[]) fr) (mix ((T.K p).take i) p (λ_=>[]) mn)::L) u) ?_ ?_ ?_
   ·exact cg.same (λq _=>by simp[mix,under]) hO
   ·rintro i u next hi h2 av
    have tC:=h.QT hp hi;obtain⟨b,hb,dS⟩:=cg.kid hp h2 hi;dsimp only[gz];rw[hb];refine ab.t (by simpa using hi) ⟨by omega,by simpa using hi,_,by simpa using dS,?_⟩;obtain⟨A,B,F1,e,h3⟩:=cg.out tC h2;dsimp only[nP,nn,aN];refine⟨_,_,h3.rd 0 rfl (by simp),?_⟩;refine h3.st 0 rfl (by simp) λu1 h4=>?_;refine⟨_,_,h4.rd 0 rfl (by simp[dx]),?_⟩;refine h4.st 0 rfl (by simp[dx]) λu2 h5=>?_;refine h5.st 0 rfl (by simp[dx]) λu3 h6=>?_;refine h6.st 0 rfl (by simp[dx]) λu4 h7=>?_;have h8:Ow (cg T (aH (mix ((T.K p).take i) p fr tk) (p++[(T.K p)[i]]) (mix ((T.K p).take i) p (λ_=>[]) fr (p++[(T.K p)[i]]))) (aH (mix ((T.K p).take i) p mn ct) (p++[(T.K p)[i]]) (mix ((T.K p).take i) p (λ_=>[]) mn (p++[(T.K p)[i]]))) (aH (mix ((T.K p).take i) p (λ_=>[]) fr) (p++[(T.K p)[i]]) []) (aH (mix ((T.K p).take i) p (λ_=>[]) mn) (p++[(T.K p)[i]]) [])::L) u4:=by
     refine cg.set (F:=⟨F1.a,F1.v,F1.c,F1.m,F1.f,F1.q,.nil,.nil⟩) h.nodup e (λq _ aQ=>⟨aW aQ,aW aQ,aW aQ,aW aQ⟩) ?_;have e2:(gz T (aH (mix ((T.K p).take i) p fr tk) (p++[(T.K p)[i]]) (mix ((T.K p).take i) p (λ_=>[]) fr (p++[(T.K p)[i]]))) (aH (mix ((T.K p).take i) p mn ct) (p++[(T.K p)[i]]) (mix ((T.K p).take i) p (λ_=>[]) mn (p++[(T.K p)[i]]))) (aH (mix ((T.K p).take i) p (λ_=>[]) fr) (p++[(T.K p)[i]]) []) (aH (mix ((T.K p).take i) p (λ_=>[]) mn) (p++[(T.K p)[i]]) []) (p++[(T.K p)[i]]) ⟨F1.a,F1.v,F1.c,F1.m,F1.f,F1.q,.nil,.nil⟩).pv=dx (dx (dx (dx (gz T (mix ((T.K p).take i) p fr tk) (mix ((T.K p).take i) p mn ct) (mix ((T.K p).take i) p (λ_=>[]) fr) (mix ((T.K p).take i) p (λ_=>[]) mn) (p++[(T.K p)[i]]) F1).pv 9 [.list 2 F1.f ((mix ((T.K p).take i) p (λ_=>[]) fr (p++[(T.K p)[i]])).map bW.pv)]) 10 [.list 1 F1.q ((mix ((T.K p).take i) p (λ_=>[]) mn (p++[(T.K p)[i]])).map qg)]) 12 [.list 2 .nil []]) 13 [.list 1 .nil []]:=by
      unfold gz lW.pv;simp only[cy];rfl
     rw[e2];exact h7
    refine ih _ _ _ _ _ tC (by simp;omega) h8 λu5 h9=>⟨rfl,av _ (cg.same (λq hq=>?_) h9)⟩;rcases h.step hp hi hq with⟨e,a1,a2,a3⟩|⟨e,a1,a2,a3⟩|⟨e,a1,a2⟩
    ·subst e;simp[mix,aH,a1,a2,a3]
    ·simp[mix,aH,e,a1,a2,a3]
    ·simp[mix,aH,e,a1,a2]
   ·rintro u next h2
    refine ab.f (by simp) ?_;rw[take_length]at h2;exact hk u h2
end
theorem Nk{es:List aj}{c:ae}(hl:cW c){ts:List bW}{a b:Nat}(h:∀t∈ts,t.binds.length<=a/\t.tags.length<=b):∀t∈stepT es c ts,t.binds.length<=a+100*aO c/\t.tags.length<=b+1:=by
 intro t ht;obtain⟨_,l1,l2,_⟩:=(bG c).1 hl;have hs:1<=aO c:=by rw[bN];omega
 unfold stepT at ht;split at ht
 ·obtain⟨t',zD,hm⟩:=mem_flatMap.1 ht;obtain⟨y,hy,rfl⟩:=mem_map.1 hm;obtain⟨h1,h2⟩:=h t' zD;unfold aX at hy;obtain⟨e',_,he⟩:=List.mem_filterMap.1 hy;cases hc:c_ c e' t'.binds with
  |none=>rw[hc]at he;cases he
  |some q=>
   rw[hc]at he;simp only[Option.map_some,Option.some.injEq]at he;subst he;have:=DW hc;simp only[length_append,length_singleton];omega
 ·obtain⟨h1,h2⟩:=h t (mem_filter.1 ht).1;omega
theorem wM{es:List aj}:∀{p:Path},bX p->∀t∈aE es p,t.binds.length<=100*ah p/\t.tags.length<=p.length:=by
 have key:∀(n:Nat) (p:Path),p.length=n->bX p->∀t∈aE es p,t.binds.length<=100*ah p/\t.tags.length<=p.length:=by
  intro n;induction n with
  |zero=>
   intro p hp _ t ht;have:p=[]:=List.eq_nil_of_length_eq_zero hp;subst this;simp only[aE,List.foldl_nil,mem_singleton]at ht;subst ht;simp[En]
  |succ n ih=>
   intro p hp hl t ht;obtain⟨q,c,rfl⟩:=nW (p:=p) (by rintro rfl;simp at hp);have Xd:=cE.1 hl;rw[dh]at ht;have:=Nk (Xd c (by simp)) (ih q (by simpa using hp) (cE.2 λd hd=>Xd d (by simp[hd]))) t ht;rw[kJ];simp only[ah,length_append,length_singleton];omega
 intro p hl;exact key _ p rfl hl
def mN(es:List aj)(p:Path):List Nat:=if p=[]then[]else kB es (HD p) (aE es p.dropLast)
theorem oD(es:List aj)(p:Path)(c:ae):mN es (p++[c])=kB es c (aE es p):=by
 unfold mN;rw[if_neg (by simp),ot,List.dropLast_concat]
section
variable {T:Tree} {tk:Path->List bW} {ct:Path->List Nat} {fr:Path->List bW} {mn:Path->List Nat}
def NT(S:List RN.El)(j:Int):Prop:=∃s∈S,s.1=j
theorem Sr{p:Path}{bl:Nat}{S:List RN.El}(hM:∀j∈T.M p,-1<=j/\j<1000000)(hm:(T.M p).length<=1000)(hp:p∈T.D)(hS:b_ RN.ck RN.key S)(Xm:S.length<=1000000000){L:List aR}{μ:Mem}(hO:Ow (cg T tk ct fr mn::RN.At bl S::L) μ){K:Kq}
  (h1:(∃j∈T.M p,NT S j)->K (pB true) μ) (h0:(∀j∈T.M p,¬NT S j)->K (pB false) μ):aa prog 160 [pP (T.B p) 0,pP bl 0] μ K:=by
 obtain⟨F,hF⟩:=cg.rd hp hO;refine BX.c ⟨_,_,aJ hF (by simp),?_⟩;refine ak.each (n:=(T.M p).length) (by omega) (λk u=>u=μ/\∀j∈(T.M p).take k,¬NT S j) ⟨rfl,by simp⟩ ?_ ?_
 ·rintro k u next hk ⟨rfl,cQ⟩ av
  have hj:=hM _ (getElem_mem hk);refine ab.t (by simpa using hk) ⟨by omega,_,tj hk,_,rfl,?_⟩;refine RN.qH (Ow.swap hO) hS (by omega) ⟨(T.M p)[k],hj⟩ ⟨_,_,rfl,?_⟩;refine ab.mk (λhs=>h1 ⟨(T.M p)[k],getElem_mem hk,?_⟩) (λhs=>av _ ⟨rfl,λj Ch=>?_⟩)
  ·obtain⟨s,hs⟩:=Option.isSome_iff_exists.1 hs;obtain⟨a1,a2⟩:=(a_ RN.hc hS).1 hs;exact⟨s,a1,a2⟩
  ·rw[take_add_one,getElem?_eq_getElem hk,mem_append]at Ch;rcases Ch with Ch|Ch
   ·exact cQ j Ch
   ·simp only[Option.toList_some,mem_singleton]at Ch;subst Ch;rintro⟨s,a1,a2⟩;have:aL RN.ck RN.key (T.M p)[k] S=some s:=(a_ RN.hc hS).2 ⟨a1,a2⟩;have Pg:(aL RN.ck RN.key (T.M p)[k] S).isSome=false:=hs;rw[this]at Pg;cases Pg
 ·rintro u next ⟨rfl,cQ⟩
  rw[take_length]at cQ;exact ab.f (by simp) (h0 cQ)
variable {n:Nat} {x:NC} {es fs:List aj} {ms:dg} {ids:pq}
structure Wn(T:Tree)(B:Int)(es:List aj)(tk:Path->List bW)(ct:Path->List Nat):Prop where
 tok:∀p∈T.D,tk p=aE es p
 cnt:∀p c,p++[c]∈T.D->ct (p++[c])=kB es c (aE es p)
 le:∀p c,p++[c]∈T.D->∀j,((du es c (aE es p) j:Nat):Int)<=B
theorem rE.Pc{T:Tree}(h:rE T){p:Path}{c:ae}(hp:p++[c]∈T.D):tc c/\aO c<=100:=by
 have h1:=lC.1 (h.Yw _ hp) c (by simp);have h2:=h.size _ hp;rw[kJ]at h2;simp only[ah]at h2;exact⟨h1,by omega⟩
theorem ad0(h:rE T)(hA:dr fs ms)(hI:iV fs ids)(hT:0<=x.T/\x.T<=1000000)(Gy:Wn T x.T es tk ct){bl:Nat}{S:List RN.El}(hS:b_ RN.ck RN.key S)(Xm:S.length<=1000000000)(tE:∀p c,p++[c]∈T.D->ki ms (T.M (p++[c])) 0 c)(hM:∀p∈T.D,∀j∈T.M p,-1<=j/\j<1000000)
  (Zc:∀y∈ms,¬NT S y.1->es.filter (bg y.2.c)=fs.filter (bg y.2.c)):
  ∀(n1:Nat) (p:Path) (fr:Path->List bW) (mn:Path->List Nat) (fl:Fl) (Te:Bool),p∈T.D->17-p.length<=n1->(aE fs p).length<=1000001->(Te=false->aE es p=aE fs p)->∀{L:List aR} {μ:Mem},Ow (an n x fs ms ids::cg T tk ct fr mn::RN.At bl S::L) μ->∀{K:Kq},
  ((∀q c,q++[c]∈T.D->p <+: q->∀j,((du fs c (aE fs q) j:Nat):Int)<=x.T)->∀μ',Ow (an n x fs ms ids::cg T tk ct (mix (T.K p) p (aE fs) fr) (mix (T.K p) p (mN fs) mn)::RN.At bl S::L) μ'->K (pB true) μ')->
  ((∃q c j,q++[c]∈T.D/\x.T<((du fs c (aE fs q) j:Nat):Int))->∀nH mZ μ',Ow (an n x fs ms ids::cg T tk ct nH mZ::RN.At bl S::L) μ'->K (pB false) μ')->
  aa prog 98 [pP n 0,pP (T.B p) 0,.list 2 fl ((aE fs p).map bW.pv),pB Te,pP bl 0] μ K:=by
 intro n1;induction n1 with
 |zero=>intro p fr mn fl Te hp hn;have:=h.len p hp;omega
 |succ n1 ih=>
  intro p fr mn fl Te hp hn oA sm L μ hO K jB Vg;have Gx:=h.kl hp;have CC:=h.GC;obtain⟨F,hF⟩:=cg.rd hp (Ow.swap hO);refine zk.c ⟨_,_,_,aJ hF (by simp),?_⟩;refine ak.each (n:=(T.K p).length) (by omega) (λi u=>(∀q c,q++[c]∈T.D->under ((T.K p).take i) p (q++[c])=true->∀j,((du fs c (aE fs q) j:Nat):Int)<=x.T)/\Ow (an n x fs ms ids::cg T tk ct (mix ((T.K p).take i) p (aE fs) fr) (mix ((T.K p).take i) p (mN fs) mn)::RN.At bl S::L) u) ⟨λq c _ hu=>by simp[under]at hu,?_⟩ ?_ ?_
  ·exact Ow.swap (cg.same (λq _=>by simp[mix,under]) (Ow.swap hO))
  ·rintro i u next hi ⟨hC,h2⟩ av
   have tC:=h.QT hp hi;have Ms:=Ow.swap h2;obtain⟨b,hb,dS⟩:=cg.kid hp Ms hi;generalize hFi:mix ((T.K p).take i) p (aE fs) fr=Fi at h2 Ms;generalize hMi:mix ((T.K p).take i) p (mN fs) mn=Mi at h2 Ms;generalize hc:(T.K p)[i]=c at*
   obtain⟨eb,UX⟩:=h.Pc tC;dsimp only[gz];rw[hb];refine ab.t (by simpa using hi) ⟨by omega,by simpa using hi,_,by simpa using dS,?_⟩;dsimp only[nP,nn,aN];obtain⟨A,B,F1,e,h3⟩:=cg.out tC Ms;refine⟨_,_,h3.rd 0 rfl (by simp),?_⟩;refine h3.st 0 rfl (by simp) λu1 h4=>?_;refine⟨_,_,h4.rd 0 rfl (by simp[dx]),?_⟩;refine h4.st 0 rfl (by simp[dx]) λu2 h5=>?_;have h6:Ow (an n x fs ms ids::cg T tk ct (aH Fi (p++[c]) (tk (p++[c]))) (aH Mi (p++[c]) (ct (p++[c])))::RN.At bl S::L) u2:=by
    refine Ow.swap (cg.set (F:=⟨F1.a,F1.v,F1.c,F1.m,F1.t,F1.k,F1.t,F1.k⟩) h.nodup e (tk:=tk) (ct:=ct) (fr:=Fi) (mn:=Mi) (λq _ aQ=>⟨rfl,rfl,aW aQ,aW aQ⟩) ?_);have e2:(gz T tk ct (aH Fi (p++[c]) (tk (p++[c]))) (aH Mi (p++[c]) (ct (p++[c]))) (p++[c]) ⟨F1.a,F1.v,F1.c,F1.m,F1.t,F1.k,F1.t,F1.k⟩).pv=dx (dx (gz T tk ct Fi Mi (p++[c]) F1).pv 12 [.list 2 F1.t ((tk (p++[c])).map bW.pv)]) 13 [.list 1 F1.k ((ct (p++[c])).map qg)]:=by
     unfold gz lW.pv;simp only[cy];rfl
    rw[e2];exact h5
   have hmp:(T.M (p++[c])).length<=1000:=by rw[h.ml p c tC];omega
   have acE:=Gy.tok _ tC;rw[dh]at acE;have RD:=Gy.cnt p c tC;refine⟨λs u=>(s=true\/(s=false/\Te=false/\∀j∈T.M (p++[c]),¬NT S j))/\Ow (an n x fs ms ids::cg T tk ct (aH Fi (p++[c]) (tk (p++[c]))) (aH Mi (p++[c]) (ct (p++[c])))::RN.At bl S::L) u,ab.mk (λha=>⟨.inl rfl,h6⟩) (λha=>?_),?_⟩
   ·have h7:Ow (cg T tk ct (aH Fi (p++[c]) (tk (p++[c]))) (aH Mi (p++[c]) (ct (p++[c])))::RN.At bl S::an n x fs ms ids::L) u2:=Ow.ord [1,1,0] h6;exact Sr (hM _ tC) hmp tC hS Xm h7 (λ_=>⟨_,rfl,.inl rfl,h6⟩) (λcQ=>⟨_,rfl,.inr ⟨rfl,ha,cQ⟩,h6⟩)
   ·rintro s u3 ⟨hs,h7⟩;have Xb:s=false->nz es fs c/\aE es p=aE fs p:=λes0=>by
     rcases hs with e|⟨_,ha,cQ⟩
     ·rw[es0]at e;cases e
     ·refine⟨RZ (ms:=ms) (aB:=T.M (p++[c])) (λk hk y hy=>?_) c 0 (tE p c tC),sm ha⟩;obtain⟨Mf,Fc⟩:=(a_ ar hA.mX).1 hy;have Fc:y.1=k:=Fc;exact Zc y Mf (by rw[Fc];exact cQ k hk)
    refine⟨λ_ u=>(∀j,((du fs c (aE fs p) j:Nat):Int)<=x.T)/\Ow (an n x fs ms ids::cg T tk ct (aH Fi (p++[c]) (aE fs (p++[c]))) (aH Mi (p++[c]) (mN fs (p++[c])))::RN.At bl S::L) u,ab.mk (λfC=>?_) (λhsf=>?_),?_⟩
    ·obtain⟨A2,B2,F2,e2,h8⟩:=cg.out tC (Ow.swap h7);have h9:Ow (an n x fs ms ids::Pt (T.B (p++[c])) 156 (gz T tk ct (aH Fi (p++[c]) (tk (p++[c]))) (aH Mi (p++[c]) (ct (p++[c]))) (p++[c]) F2).pv::Gv T (p++[c])::Ow ((A2++B2).map (dU T tk ct (aH Fi (p++[c]) (tk (p++[c]))) (aH Mi (p++[c]) (ct (p++[c])))))::RN.At bl S::L) u3:=Ow.ord [3] h8;have HO:(gz T tk ct (aH Fi (p++[c]) (tk (p++[c]))) (aH Mi (p++[c]) (ct (p++[c]))) (p++[c]) F2).c=c:=ot p c;have rD:=oc (h.Yw p hp);have fw:=h.size p hp;have hbb:=wM (es:=fs) rD;have hln:=h.len p hp;refine MF (n:=n) (x:=x) (ids:=ids) hA hI hT (xb:=T.B (p++[c])) (gz T tk ct (aH Fi (p++[c]) (tk (p++[c]))) (aH Mi (p++[c]) (ct (p++[c]))) (p++[c]) F2) (by rw[HO];exact eb) (by rw[HO];exact UX) (by rw[HO];exact tE p c tC) (by rw[HO];exact h.ml p c tC) (aE fs p) _ oA (λt ht=>by have:=hbb t ht;omega) h9 (λhle f u4 tG=>?_) (λXf u4 tG=>?_)
     ·rw[HO]at hle |-;refine⟨_,_,_,_,_,rfl,ab.f rfl ?_⟩;have CE:Ow (Pt (T.B (p++[c])) 156 (gz T tk ct (aH Fi (p++[c]) (tk (p++[c]))) (aH Mi (p++[c]) (ct (p++[c]))) (p++[c]) F2).pv::Gv T (p++[c])::Ow ((A2++B2).map (dU T tk ct (aH Fi (p++[c]) (tk (p++[c]))) (aH Mi (p++[c]) (ct (p++[c])))))::an n x fs ms ids::RN.At bl S::L) u4:=Ow.ord [1,1,1,0] tG;dsimp only[nP,nn,aN];refine CE.st 0 rfl (by simp) λu5 lO=>?_;refine lO.st 0 rfl (by simp[dx]) λu6 Bq=>⟨hle,?_⟩;refine Ow.swap (cg.set (F:=⟨F2.a,F2.v,F2.c,F2.m,F2.t,F2.k,f,.sh⟩) h.nodup e2 (tk:=tk) (ct:=ct) (fr:=aH Fi (p++[c]) (tk (p++[c]))) (mn:=aH Mi (p++[c]) (ct (p++[c]))) (λq _ aQ=>⟨rfl,rfl,by rw[aW aQ,aW aQ],by rw[aW aQ,aW aQ]⟩) ?_);have e3:(gz T tk ct (aH Fi (p++[c]) (aE fs (p++[c]))) (aH Mi (p++[c]) (mN fs (p++[c]))) (p++[c]) ⟨F2.a,F2.v,F2.c,F2.m,F2.t,F2.k,f,.sh⟩).pv=dx (dx (gz T tk ct (aH Fi (p++[c]) (tk (p++[c]))) (aH Mi (p++[c]) (ct (p++[c]))) (p++[c]) F2).pv 12 [.list 2 f ((stepT fs c (aE fs p)).map bW.pv)]) 13 [.list 1 .sh ((kB fs c (aE fs p)).map qg)]:=by
       unfold gz lW.pv;simp only[cy,dh,oD];rfl
      rw[e3];exact Bq
     ·rw[HO]at Xf;obtain⟨j,hj⟩:=Xf;refine⟨_,_,_,_,_,rfl,ab.t rfl (Vg ⟨p,c,j,tC,hj⟩ (aH Fi (p++[c]) (tk (p++[c]))) (aH Mi (p++[c]) (ct (p++[c]))) u4 ?_)⟩;exact Ow.swap (cg.in_ e2 (F:=F2) (Ow.ord [1,1,1,0] tG))
    ·obtain⟨zb,tB⟩:=Xb hsf;refine⟨λj=>?_,?_⟩
     ·rw[<- DZ zb,<- tB];exact Gy.le p c tC j
     ·have e1:tk (p++[c])=aE fs (p++[c]):=by rw[acE,dh,tB,Ae zb]
      have e2:ct (p++[c])=mN fs (p++[c]):=by
       rw[RD,oD,tB];unfold kB;exact map_congr_left λj _=>DZ zb _ j
      rw[<- e1,<- e2];exact h7
    ·rintro _ u4 ⟨hle,h8⟩;obtain⟨F3,hF3⟩:=cg.rd tC (Ow.swap h8);refine⟨_,_,aJ hF3 (by simp),?_⟩;have Vn:(gz T tk ct (aH Fi (p++[c]) (aE fs (p++[c]))) (aH Mi (p++[c]) (mN fs (p++[c]))) (p++[c]) F3).fr=aE fs (p++[c]):=cy _ _ _;rw[Vn];have hlen:(aE fs (p++[c])).length<=1000001:=by
      have:=hle 0;rw[jt]at this;rw[dh];omega
     refine ih (p++[c]) _ _ _ s tC (by simp;omega) hlen (λhsf=>?_) h8 (λhC2 u5 h9=>⟨_,rfl,ab.f rfl (av _ ⟨λq d hq hu j=>?_,?_⟩)⟩) (λXf nH mZ u5 h9=>⟨_,rfl,ab.t rfl (Vg Xf nH mZ u5 h9)⟩)
     ·obtain⟨zb,tB⟩:=Xb hsf;rw[dh,dh,tB,Ae zb]
     ·rcases h.step hp hi hq with⟨e,a1,a2,a3⟩|⟨e,a1,a2,a3⟩|⟨e,a1,a2⟩
      ·rw[hc]at e;obtain⟨e1,e2⟩:=append_inj' e rfl;simp only[List.cons.injEq,and_true]at e2;rw[e1,e2];exact hle j
      ·rw[hc]at e a1;obtain⟨fK,aQ⟩:=(h.below tC hq).2 (gl.1 a1);refine hC2 q d hq ?_ j;obtain⟨r,hr⟩:=fK;cases DL:r.getLast? with
       |none=>
        rw[List.getLast?_eq_none_iff]at DL;subst DL;rw[append_nil]at hr;exact absurd hr.symm aQ
       |some z=>
        obtain⟨r',Bk⟩:=List.getLast?_eq_some_iff.1 DL;rw[Bk,<- append_assoc]at hr;obtain⟨e1,_⟩:=append_inj' hr rfl;exact⟨r',e1⟩
      ·rw[a2]at hu;exact hC q d hq hu j
     ·refine Ow.swap (cg.same (λq hq=>?_) (Ow.swap h9));have cO:=h.step hp hi hq;rw[hc]at cO;rw[<- hFi,<- hMi];rcases cO with⟨e,a1,a2,a3⟩|⟨e,a1,a2,a3⟩|⟨e,a1,a2⟩
      ·subst e;simp[mix,aH,a1,a2,a3]
      ·simp[mix,aH,e,a1,a2,a3]
      ·simp[mix,aH,e,a1,a2]
  ·rintro u next ⟨hC,h2⟩
   refine ab.f (by simp) ?_;rw[take_length]at hC h2;refine jB (λq c hq fK j=>hC q c hq (gl.2 ((h.below hp hq).1 ⟨fK.trans (prefix_append _ _),λe=>?_⟩)) j) u h2;have h4:=fK.length_le;have h5:=congrArg List.length e;simp at h5;omega
end
structure jf(B:Int)(T:Tree)(es:List aj)(ms:dg)(tk:Path->List bW)(ct:Path->List Nat):Prop where
 tree:rE T
 use:fi es ms (T.D.flatMap T.M)
 fit:∀p c,p++[c]∈T.D->ki ms (T.M (p++[c])) 0 c
 dN:Wn T B es tk ct
theorem jf.acg{B:Int}{T:Tree}{es:List aj}{ms:dg}{tk:Path->List bW}{ct:Path->List Nat}(h:jf B T es ms tk ct):(T.D.flatMap T.M).length<=500000:=by
 rw[List.length_flatMap];have:∀D:List Path,(∀p∈D,(T.M p).length<=100)->(D.map λp=>(T.M p).length).sum<=100*D.length:=by
  intro D;induction D with
  |nil=>intro _;simp
  |cons p D ih=>
   intro h;have h1:=h p (by simp);have h2:=ih λq hq=>h q (by simp[hq]);simp only[map_cons,sum_cons,length_cons];omega
 have h1:=this T.D λp hp=>?_
 ·have:=h.tree.GC;omega
 ·by_cases e:p=[]
  ·subst e;rw[h.tree.m0];simp
  ·obtain⟨q,c,rfl⟩:=nW e;rw[h.tree.ml q c hp];exact(h.tree.Pc hp).2
section
variable {T:Tree} {tk:Path->List bW} {ct:Path->List Nat} {fr:Path->List bW} {mn:Path->List Nat}
theorem cg.inj{L:List aR}{μ:Mem}{p q:Path}(hp:p∈T.D)(hq:q∈T.D)(h:Ow (cg T tk ct fr mn::L) μ)(e:T.B p=T.B q):p=q:=by
 obtain⟨A,B,F,eD,h1⟩:=cg.out hp h;by_cases aQ:q=p
 ·exact aQ.symm
 ·exfalso;have hm:q∈A++B:=by
   rw[eD,mem_append,mem_cons]at hq;rcases hq with h|h|h
   ·simp[h]
   ·exact absurd h aQ
   ·simp[h]
  obtain⟨A2,B2,e2⟩:=append_of_mem (mem_map_of_mem (f:=dU T tk ct fr mn) hm);rw[e2]at h1;obtain⟨μ1,μ2,hs,rfl,hP,h2⟩:=h1;obtain⟨ν1,ν2,DK,rfl,hV,h3⟩:=h2;obtain⟨ρ1,ρ2,hs3,rfl,h4,h5⟩:=h3;obtain⟨σ,hσ,fE⟩:=h4.mem (dU T tk ct fr mn q) (by simp);obtain⟨F2,h6⟩:=hσ;have h7:=h6.get 0 rfl;have h8:=fE _ _ h7;have hP:μ1 (T.B p)=_:=hP;rw[<- e]at h8;have h9:=(hs (T.B p)).resolve_left (by rw[hP];simp);have tG:ν1 (T.B p)=none:=by
   rcases DK (T.B p)with h|h
   ·exact h
   ·rw[Mem.bD h8]at h;cases h
  rw[Mem.bH tG,Mem.bD h8]at h9;cases h9
theorem aie(h:rE T){p:Path}(hp:p∈T.D)(c:ae)(fa fv fc:Fl){L:List aR}{μ:Mem}(hO:Ow (cg T tk ct fr mn::L) μ){K:Kq}
  (h1:p++[c]∈T.D->K (pP (T.B (p++[c])) 0) μ) (h0:p++[c]∉T.D->K (.raw (.pointer none)) μ):
  aa prog 103 [pP (T.B p) 0,.agg [pI c.kind,pB c.goal,pS c.id,.list 6 fa (c.attr.map Test.pv),.list 6 fv (c.value.map Test.pv),pB c.acc,.list 7 fc (c.conds.map ae.pv)]] μ K:=by
 have Gx:=h.kl hp;have CC:=h.GC;obtain⟨F,hF⟩:=cg.rd hp hO;refine Ll.c ⟨_,_,_,aJ hF (by simp),?_⟩;refine ak.each (n:=(T.K p).length) (by omega) (λi u=>u=μ/\c∉(T.K p).take i) ⟨rfl,by simp⟩ ?_ ?_
 ·rintro i u next hi ⟨rfl,cQ⟩ av
  have tC:=h.QT hp hi;obtain⟨eb,UX⟩:=h.Pc tC;obtain⟨b,hb,dS⟩:=cg.kid hp hO hi;obtain⟨F2,RV⟩:=cg.rd tC hO;dsimp only[gz];rw[hb];refine ab.t (by simpa using hi) ⟨by omega,by simpa using hi,_,by simpa using dS,?_⟩;refine⟨_,_,_,_,_,_,_,_,_,_,aJ RV (by simp),?_⟩;have hl:HD (p++[(T.K p)[i]])=(T.K p)[i]:=ot _ _;have Kb:=bN (T.K p)[i];dsimp only[gz];rw[hl];refine(ab6 (ah (T.K p)[i].conds) .sh .sh .sh .sh .sh .sh (T.K p)[i] c (le_refl _) (by omega) ((mG _).1 eb).1).call (λe=>⟨_,rfl,ab.t rfl ?_⟩) (λe=>⟨_,rfl,ab.f rfl (av _ ⟨rfl,λhm=>?_⟩)⟩)
  ·rw[e]at tC |-;exact h1 tC
  ·rw[take_add_one,getElem?_eq_getElem hi,mem_append]at hm;rcases hm with hm|hm
   ·exact cQ hm
   ·simp only[Option.toList_some,mem_singleton]at hm;exact e hm.symm
 ·rintro u next ⟨rfl,cQ⟩
  rw[take_length]at cQ;exact ab.f (by simp) (h0 λhm=>cQ ((h.kids p hp c).2 hm))
end
def Tree.del(T:Tree)(q:Path)(c:ae):Tree:=⟨T.D.filter λr=>decide (r≠q++[c]),T.B,T.M,T.E,aH T.K q ((T.K q).filter λd=>decide (d≠c)),T.S⟩
theorem rE.del{T:Tree}(h:rE T){q:Path}{c:ae}(YU:q++[c]∈T.D)(hk:T.K (q++[c])=[]):rE (T.del q c):=by
 have hq:=h.up _ _ YU;have hm:∀r,r∈(T.del q c).D↔r∈T.D/\r≠q++[c]:=λr=>by unfold Tree.del;simp
 have hK:∀p,p∈(T.del q c).D->∀d,d∈(T.del q c).K p↔p++[d]∈(T.del q c).D:=λp hp d=>by
  obtain⟨h1,h2⟩:=(hm p).1 hp;rw[hm];show d∈aH T.K q _ p↔_;by_cases e:p=q
  ·subst e;rw[cy,mem_filter,h.kids p h1 d];simp
  ·rw[aW e,h.kids p h1 d];refine⟨λhd=>⟨hd,λe2=>e ?_⟩,λhd=>hd.1⟩;exact(append_inj' e2 rfl).1
 refine⟨h.nodup.filter _,(hm _).2 ⟨h.root,by simp⟩,hK,λp hp=>?_,λp d hd=>?_,λp hp=>h.len p ((hm p).1 hp).1,λp hp=>h.Yw p ((hm p).1 hp).1,λp hp=>h.size p ((hm p).1 hp).1,λp d hd=>h.ml p d ((hm _).1 hd).1,h.m0,le_trans (length_filter_le _ _) h.GC,λp hp=>h.mge p ((hm p).1 hp).1⟩
 ·show(aH T.K q _ p).Nodup;by_cases e:p=q
  ·subst e;rw[cy];exact(h.HE p hq).filter _
  ·rw[aW e];exact h.HE p ((hm p).1 hp).1
 ·obtain⟨h1,h2⟩:=(hm _).1 hd;refine(hm p).2 ⟨h.up _ _ h1,λe=>?_⟩;subst e;have:=(h.kids _ YU d).2 h1;rw[hk]at this;cases this
theorem Sf{T:Tree}(h:rE T){p:Path}(hp:p∈T.D):(T.D.flatMap T.M).Perm (T.M p++(T.D.filter λr=>decide (r≠p)).flatMap T.M):=by
 obtain⟨A,B,e⟩:=append_of_mem hp;have hn:=h.nodup;rw[e]at hn;obtain⟨n1,n2,n3⟩:=nodup_append.1 hn;have n4:=(nodup_cons.1 n2).1;have e2:T.D.filter (λr=>decide (r≠p))=A++B:=by
  rw[e,List.filter_append,filter_cons,if_neg (by simp)];congr 1
  ·exact filter_eq_self.2 λa ha=>by simpa using λe=>n3 a ha p (by simp) e
  ·exact filter_eq_self.2 λa ha=>by simp only[decide_eq_true_eq];rintro rfl;exact n4 ha
 rw[e2,e,List.flatMap_append,flatMap_cons,List.flatMap_append,<- append_assoc,<- append_assoc];exact List.perm_append_comm.append_right _
theorem DV{T:Tree}(h:rE T){p:Path}{A B:List Path}(e:T.D=A++p::B):T.D.filter (λr=>decide (r≠p))=A++B:=by
 have hn:=h.nodup;rw[e]at hn;obtain⟨n1,n2,n3⟩:=nodup_append.1 hn;have n4:=(nodup_cons.1 n2).1;rw[e,List.filter_append,filter_cons,if_neg (by simp)];congr 1
 ·exact filter_eq_self.2 λa ha=>by simpa using λe=>n3 a ha p (by simp) e
 ·exact filter_eq_self.2 λa ha=>by simp only[decide_eq_true_eq];rintro rfl;exact n4 ha
theorem erase_filter{c:ae}:∀{l:List ae} {j:Nat} (hj:j<l.length),l.Nodup->l[j]=c->l.eraseIdx j=l.filter λd=>decide (d≠c)
 |[],j,hj,_,_=>by simp at hj
 |d::l,0,_,hn,e=>by
  have e:d=c:=e
  subst e;obtain⟨h1,h2⟩:=nodup_cons.1 hn;rw[List.eraseIdx_cons_zero,filter_cons,if_neg (by simp)];exact(filter_eq_self.2 λa ha=>by simp only[decide_eq_true_eq];rintro rfl;exact h1 ha).symm
 |d::l,j+1,hj,hn,e=>by
  obtain⟨h1,h2⟩:=nodup_cons.1 hn;have e:l[j]'(by simpa using hj)=c:=e;rw[List.eraseIdx_cons_succ,filter_cons,if_pos,erase_filter (by simpa using hj) h2 e];simp only[decide_eq_true_eq];rintro rfl;exact h1 (e▸getElem_mem _)
theorem cg.KE{T T':Tree}{tk wE:Path->List bW}{ct yO:Path->List Nat}{fr nH:Path->List bW}{mn mZ:Path->List Nat}{r:Path}(hB:T'.B r=T.B r)(hM:T'.M r=T.M r)(hE:T'.E r=T.E r)(hK:T'.K r=T.K r)(hS:T'.S r=T.S r)(hKB:∀c∈T.K r,T'.B (r++[c])=T.B (r++[c]))(h1:wE r=tk r)(h2:yO r=ct r)(h3:nH r=fr r)(h4:mZ r=mn r):dU T' wE yO nH mZ r=dU T tk ct fr mn r:=by
 unfold dU Gv gz gU;rw[hB,hM,hE,hK,hS,h1,h2,h3,h4,map_congr_left λc hc=>by rw[hKB c hc]]
theorem jf.del{B:Int}{T:Tree}{es:List aj}{ms cu:dg}{tk:Path->List bW}{ct:Path->List Nat}(h:jf B T es ms tk ct){q:Path}{c:ae}(YU:q++[c]∈T.D)(hk:T.K (q++[c])=[])(hu:fi es cu ((T.del q c).D.flatMap T.M))(hK:∀j d,j∈(T.del q c).D.flatMap T.M->dB ms j d->dB cu j d):jf B (T.del q c) es cu tk ct:=by
 have hm:∀r,r∈(T.del q c).D->r∈T.D:=λr hr=>(mem_filter.1 hr).1;refine⟨h.tree.del YU hk,hu,λp d hd=>?_,⟨λp hp=>h.dN.tok p (hm p hp),λp d hd=>h.dN.cnt p d (hm _ hd),λp d hd=>h.dN.le p d (hm _ hd)⟩⟩;exact tH (λj hj d'=>hK j d' (mem_flatMap.2 ⟨_,hd,hj⟩)) d 0 (h.fit p d (hm _ hd))
def Tt(T:Tree)(W:Path->Prop):Prop:=∀r∈T.D,r≠[]->¬W r->T.K r≠[]\/0<T.E r
def dE(B:Path->Nat)(l:Path):List Nat:=(List.range l.length).map λi=>B (l.take (i+1))
theorem qY(B:Path->Nat)(l:Path):(dE B l).length=l.length:=by simp[dE]
theorem Jk(B:Path->Nat)(l:Path){k:Nat}(hk:k<l.length):((dE B l).map λb=>[pP b 0])[Int.toNat (k:Int)]?=some [pP (B (l.take (k+1))) 0]:=by
 have h:k<(dE B l).length:=by rw[qY];exact hk
 rw[Int.toNat_natCast,List.getElem?_map,getElem?_eq_getElem h];simp[dE]
theorem NJ(b:Nat):(beq b b&&beq 0 0)=true:=by simp
theorem UH{a b:Nat}(h:a≠b):(beq a b&&beq 0 0)=false:=by
 cases hb:beq a b with
 |false=>rfl
 |true=>exact absurd (Nat.eq_of_beq_eq_true hb) h
section
variable {n:Nat} {x:NC} {es:List aj} {ids:pq} {Bd:Int} {tk:Path->List bW} {ct:Path->List Nat} {fr:Path->List bW} {mn:Path->List Nat}
theorem cg.ZM{T:Tree}(h:rE T){q:Path}{c:ae}(YU:q++[c]∈T.D){L:List aR}{μ:Mem}(hO:Ow (cg T tk ct fr mn::L) μ){j:Nat}(hj:j<(T.K q).length)(ej:(T.K q)[j]=c){K:Mem->Prop}
  (hK:∀F μ',Ow (cg (T.del q c) tk ct fr mn::Pt (T.B (q++[c])) 156 (gz T tk ct fr mn (q++[c]) F).pv::L) μ'->K μ'):
  gZ (T.S q).1/\(T.K q).length<=(T.S q).2/\fA 1 8 131 (yY (T.S q).1 0 (T.S q).2 1) j (T.S q).2 (.raw (.slice (yY (T.S q).1 (j+1) (T.S q).2 1) ((T.K q).length-(j+1)) ((T.S q).2-(j+1)))) μ (λs sn sc u=>stM (T.B q) 7 [.raw (.slice s sn sc)] u K):=by
 have hq:=h.up _ _ YU;have Gx:=h.kl hq;have CC:=h.GC;obtain⟨A,B,F,e,h1⟩:=cg.out YU hO;have aQ:q≠q++[c]:=λe=>by have:=congrArg List.length e;simp at this
 have Mj:q∈A++B:=by
  rw[<- DV h e];exact mem_filter.2 ⟨hq,by simpa using aQ⟩
 have h2:Ow (cg ⟨A++B,T.B,T.M,T.E,T.K,T.S⟩ tk ct fr mn::Pt (T.B (q++[c])) 156 (gz T tk ct fr mn (q++[c]) F).pv::L) μ:=by
  have h3:Ow (Ow ((A++B).map (dU T tk ct fr mn))::Pt (T.B (q++[c])) 156 (gz T tk ct fr mn (q++[c]) F).pv::L) μ:=Ow.ord [1,0] h1.swap.drop |> λh=>h;exact h3
 obtain⟨A2,B2,F2,e2,h3⟩:=cg.out (T:=⟨A++B,T.B,T.M,T.E,T.K,T.S⟩) Mj h2;have h4:Ow (cA 131 1 (.raw (.slice (T.S q).1 (T.K q).length (T.S q).2)) ((T.K q).map λc=>[pP (T.B (q++[c])) 0])::Pt (T.B q) 156 (gz T tk ct fr mn q F2).pv::Ow ((A2++B2).map (dU T tk ct fr mn))::Pt (T.B (q++[c])) 156 (gz T tk ct fr mn (q++[c]) F).pv::L) μ:=h3.swap;have key:∀(μ':Mem),Ow (cA 131 1 (.raw (.slice (T.S q).1 ((T.K q).length-1) (T.S q).2)) (((T.K q).eraseIdx j).map λx=>[pP (T.B (q++[x])) 0])::Pt (T.B q) 156 (gz T tk ct fr mn q F2).pv::Ow ((A2++B2).map (dU T tk ct fr mn))::Pt (T.B (q++[c])) 156 (gz T tk ct fr mn (q++[c]) F).pv::L) μ'->stM (T.B q) 7 [.raw (.slice (T.S q).1 ((T.K q).length-1) (T.S q).2)] μ' K:=by
  intro μ' h5;refine h5.st 1 rfl (by simp) λμ2 h6=>hK F μ2 ?_;have hD:(T.del q c).D=A2++q::B2:=by
   show T.D.filter _=_;rw[DV h e];exact e2
  have hn2:(A2++q::B2).Nodup:=by rw[<- hD];exact h.nodup.filter _
  have Xo:(T.del q c).K q=(T.K q).eraseIdx j:=by
   show aH T.K q _ q=_;rw[cy,erase_filter hj (h.HE q hq) ej]
  have hlen:((T.K q).eraseIdx j).length=(T.K q).length-1:=by rw[List.length_eraseIdx,if_pos hj]
  refine cg.in_ hD (F:=F2) ?_;have ja:(A2++B2).map (dU (T.del q c) tk ct fr mn)=(A2++B2).map (dU T tk ct fr mn):=map_congr_left λr hr=>by
   have Rd:r≠q:=by
    rintro rfl;obtain⟨n1,n2,n3⟩:=nodup_append.1 hn2;rcases mem_append.1 hr with h|h
    ·exact n3 r h r (by simp) rfl
    ·exact(nodup_cons.1 n2).1 h
   exact cg.KE (T:=T) (T':=T.del q c) rfl rfl rfl (aW Rd) rfl (λ_ _=>rfl) rfl rfl rfl rfl
  rw[ja];have kZ:(gz (T.del q c) tk ct fr mn q F2).pv=dx (gz T tk ct fr mn q F2).pv 7 [.raw (.slice (T.S q).1 ((T.K q).length-1) (T.S q).2)]:=by
   unfold gz lW.pv;rw[Xo,hlen];rfl
  have hV:Gv (T.del q c) q=cA 131 1 (.raw (.slice (T.S q).1 ((T.K q).length-1) (T.S q).2)) (((T.K q).eraseIdx j).map λc=>[pP (T.B (q++[c])) 0]):=by
   unfold Gv gU;rw[Xo,hlen];rfl
  rw[kZ,hV];exact h6.swap
 obtain⟨v1,v2,v3,v4⟩:=cA.cut h4 (λ_=>rfl) hj (by omega) (K:=λs sn sc u=>stM (T.B q) 7 [.raw (.slice s sn sc)] u K) key;exact⟨v1,v3,v4⟩
theorem SG(l:Path)(rD:l.length<=1000){T:Tree}{ms:dg}(hC:jf Bd T es ms tk ct)(hlD:l∈T.D)(hN:Tt T (λr=>r <+: l))(acP:x.root=T.B [])(fl:Fl){L:List aR}{μ:Mem}(hO:Ow (an n x es ms ids::cg T tk ct fr mn::L) μ){K:Kq}
  (hk:∀T' cu μ',jf Bd T' es cu tk ct->Tt T' (λ_=>False)->T'.B=T.B->T'.E=T.E->(∀r∈T'.D,r∈T.D)->(∀r∈T.D,0<T.E r->r∈T'.D)->Ow (an n x es cu ids::cg T' tk ct fr mn::L) μ'->K (.az []) μ'):
  aa prog 85 [pP n 0,.list 1 fl ((dE T.B l).map λb=>[pP b 0])] μ K:=by
 refine xY.c ?_;rw[show wrap .i64 (((((dE T.B l).map λb=>[pP b 0]).length:Nat):Int)-1)=((l.length:Nat):Int)-1 from by rw[length_map,qY,aD (by omega) (by omega)]];refine ak.adX l.length (λm u=>∃T' cu,(jf Bd T' es cu tk ct/\l.take m∈T'.D/\Tt T' (λr=>r <+: l.take m)/\T'.B=T.B/\T'.E=T.E/\(∀r∈T'.D,r∈T.D)/\(∀r∈T.D,0<T.E r->r∈T'.D))/\Ow (an n x es cu ids::cg T' tk ct fr mn::L) u) ⟨T,ms,⟨hC,by rw[take_length];exact hlD,by rw[take_length];exact hN,rfl,rfl,λ_ h=>h,λ_ h _=>h⟩,hO⟩ ?_ ?_
 ·rintro k u next Gx ⟨T',cu,⟨zH,Pj,Zx,hB,hE,ke,ss⟩,h2⟩ av
  have ep:l.take (k+1)=l.take k++[l[k]]:=by rw[take_add_one,getElem?_eq_getElem Gx];rfl
  generalize hq:l.take k=q at*
  generalize hc:l[k]=c at*
  rw[ep]at Pj Zx;have vq:=zH.tree.up _ _ Pj;have d_:((dE T.B l).map λb=>[pP b 0])[Int.toNat (k:Int)]?=some [pP (T'.B (q++[c])) 0]:=by rw[Jk T.B l Gx,ep,hB]
  obtain⟨F,hF⟩:=cg.rd Pj (Ow.swap h2);have done:(T'.K (q++[c])≠[]\/0<T'.E (q++[c]))->K (.az []) u:=λhor=>by
   refine hk T' cu u zH (λr hr Mh _=>?_) hB hE ke ss h2;by_cases fK:r <+: q++[c]
   ·by_cases e:r=q++[c]
    ·rw[e];exact hor
    ·left;obtain⟨s,hs⟩:=fK;cases s with
     |nil=>rw[append_nil]at hs;exact absurd hs e
     |cons d s=>
      have:r++[d]∈T'.D:=zH.tree.Qp Pj ⟨s,by rw[<- hs];simp⟩;have:=(zH.tree.kids r hr d).2 this;intro e0;rw[e0]at this;cases this
   ·exact Zx r hr Mh fK
  refine ab.t (by simp) ⟨by omega,_,d_,_,rfl,?_⟩;dsimp only[nP,nn,aN];refine⟨_,_,_,aJ hF (by simp),ab.mk (λh=>done (.inl λe=>?_)) (λGy=>⟨_,aJ hF (by simp),ab.mk (λh=>done (.inr ?_)) (λPo=>?_)⟩)⟩
  ·have h9:0<(T'.K (q++[c])).length:=by simpa using h
   rw[e]at h9;simp at h9
  ·dsimp only[gz]at h;simpa using h
  ·have Vg:T'.K (q++[c])=[]:=by
    dsimp only[gz]at Gy;have:(T'.K (q++[c])).length=0:=by simpa using Gy
    exact List.eq_nil_of_length_eq_zero this
   have alS:T'.E (q++[c])=0:=by
    dsimp only[gz]at Po;have:¬(0:Int)<((T'.E (q++[c]):Nat):Int):=by simpa using Po
    omega
   refine⟨_,aJ (an.xp (x:=x) (es:=es) (ms:=cu) (ids:=ids) h2 (by simp)) (by simp),?_⟩;refine⟨λs u'=>s=some ⟨T'.B q,0,none⟩/\u'=u,ab.mk (λh=>?_) (λh=>⟨?_,rfl⟩),?_⟩
   ·have jB:0<k:=by simpa using h
    obtain⟨k',rfl⟩:∃k',k=k'+1:=⟨k-1,by omega⟩;have hw:wrap .i64 (((k'+1:Nat):Int)-1)=(k':Int):=by rw[aD (by omega) (by omega)];omega
    rw[hw];refine⟨by omega,_,Jk T.B l (by omega),_,rfl,?_,rfl⟩;rw[hq,hB]
   ·have jB:k=0:=by
     have:¬0<k:=by simpa using h
     omega
    subst jB;have:q=[]:=by rw[<- hq];rfl
    show some (⟨x.root,0,none⟩:Addr)=_;rw[this,hB,acP]
   ·rintro s u' ⟨rfl,rfl⟩;refine⟨λ_ u2=>∃F,Ow (an n x es cu ids::Pt (T'.B (q++[c])) 156 (gz T' tk ct fr mn (q++[c]) F).pv::cg (T'.del q c) tk ct fr mn::L) u2,?_,?_⟩
    ·dsimp only[nP,nn,aN];obtain⟨Fq,hFq⟩:=cg.rd vq (Ow.swap h2);have hkk:=zH.tree.kl vq;have CC:=zH.tree.GC;refine⟨_,_,_,aJ hFq (by simp),?_⟩;dsimp only[gz];refine ak.each (n:=(T'.K q).length) (by omega) (λj u2=>u2=u'/\c∉(T'.K q).take j) ⟨rfl,by simp⟩ ?_ ?_
     ·rintro j u2 AO hj ⟨rfl,cQ⟩ lM;obtain⟨b,hb,dS⟩:=cg.kid vq (Ow.swap h2) hj;have tC:=zH.tree.QT vq hj;obtain⟨F2,RV⟩:=cg.rd tC (Ow.swap h2);rw[hb];refine ab.t (by simpa using hj) ⟨by omega,by simpa using hj,_,by simpa using dS,?_⟩;refine⟨⟨_,_,RV,by simp⟩,⟨_,_,hF,by simp⟩,?_⟩;dsimp only;by_cases ed:(T'.K q)[j]=c
      ·rw[ed,NJ];refine ab.t rfl ?_;obtain⟨v1,v2,v3⟩:=cg.ZM zH.tree Pj (Ow.swap h2) hj ed (K:=λu3=>∃F,Ow (an n x es cu ids::Pt (T'.B (q++[c])) 156 (gz T' tk ct fr mn (q++[c]) F).pv::cg (T'.del q c) tk ct fr mn::L) u3) (λF μ' h=>⟨F,Ow.ord [2,1,0] h⟩);have hw:wrap .i64 ((j:Int)+1)=((j+1:Nat):Int):=by rw[aD (by omega) (by omega)];omega
       refine⟨_,_,_,aJ hFq (by simp),?_⟩;dsimp only[gz];refine⟨v1,by omega,by omega,by omega,by omega,_,_,_,aJ hFq (by simp),?_⟩;dsimp only[gz];rw[hw];refine⟨v1,by omega,by omega,by omega,by omega,?_⟩;simp only[Int.toNat_natCast,Int.toNat_zero,Nat.sub_zero];exact v3
      ·rw[UH λe=>ed ?_]
       ·refine ab.f rfl (lM _ ⟨rfl,λhm=>?_⟩);rw[take_add_one,getElem?_eq_getElem hj,mem_append]at hm;rcases hm with hm|hm
        ·exact cQ hm
        ·simp only[Option.toList_some,mem_singleton]at hm;exact ed hm.symm
       ·have:=cg.inj tC Pj (Ow.swap h2) e;simpa using this
     ·rintro u2 AO ⟨rfl,cQ⟩;rw[take_length]at cQ;exact absurd ((zH.tree.kids q vq c).2 Pj) cQ
    ·rintro _ u2 ⟨F2,h3⟩;have pG:=zH.tree.ml q c Pj;have fw:=(zH.tree.Pc Pj).2;refine MH (gz T' tk ct fr mn (q++[c]) F2) (l:=(T'.del q c).D.flatMap T'.M) (zH.use.perm (Sf zH.tree Pj)) (by show(T'.M (q++[c])).length<=1000;omega) h3 λI_ Gw hK2 u3 h4=>⟨rfl,?_⟩;rw[aD (by omega) (by omega)];refine av u3 ⟨T'.del q c,I_,⟨zH.del Pj Vg Gw hK2,mem_filter.2 ⟨vq,?_⟩,λr hr Mh hW=>?_,hB,hE,λr hr=>ke r (mem_filter.1 hr).1,λr hr he=>mem_filter.2 ⟨ss r hr he,?_⟩⟩,?_⟩
     ·simp
     ·obtain⟨Ph,DL⟩:=mem_filter.1 hr;have DL:r≠q++[c]:=by simpa using DL
      have Rd:r≠q:=by rintro rfl;exact hW (prefix_refl _)
      show aH T'.K q _ r≠[]\/_;rw[aW Rd];refine Zx r Ph Mh λfK=>?_;rcases List.prefix_concat_iff.1 fK with h|h
      ·exact DL h
      ·exact hW h
     ·simp only[decide_eq_true_eq];rintro rfl;rw[<- hE]at he;omega
     ·exact h4.tail λ_ h=>h.drop
 ·rintro u next ⟨T',cu,⟨zH,Pj,Zx,hB,hE,ke,ss⟩,h2⟩
  refine ab.f (by simp) (hk T' cu u zH (λr hr Mh _=>Zx r hr Mh λhp=>Mh ?_) hB hE ke ss h2);rw[List.take_zero]at hp;exact List.prefix_nil.1 hp
end
theorem TN{v:ByteArray}(h:iX v=true):v≠⟨#[]⟩:=by
 rintro rfl;have:iX ⟨#[]⟩=false:=by kernel_rfl
 rw[this]at h;cases h
open K6
theorem Am{p:Prod}(h:(cU p).2=0):∀x∈cX p.conds 0 0,bw x.2.2 x.2.1=0:=by
 unfold cU at h;cases hw:iX p.name with
 |false=>rw[hw]at h;simp at h
 |true=>
  rw[hw]at h;simp only[Bool.not_true,cond_false]at h;cases hb:(decide (ah p.conds<1)||(decide (16<ah p.conds)||(decide (p.bk.length<1)||decide (16<p.bk.length))))with
  |true=>rw[hb]at h;simp at h
  |false=>
   rw[hb]at h;simp only[cond_false]at h;refine yN ?_;unfold lu at h;split at h
   ·rename_i a e he;exact absurd h (rp he)
   ·assumption
theorem Sj{c:ae}{d:Int}(h:bw c d=0)(hk:c.kind=1\/c.kind=2):c.id≠⟨#[]⟩:=by
 unfold bw at h;have h3:(c.kind == 3)=false:=by rcases hk with e|e<;>rw[e]<;>rfl
 have lO:((c.kind == 1)||(c.kind == 2))=true:=by rcases hk with e|e<;>rw[e]<;>rfl
 rw[h3,lO]at h;simp only[cond_true,cond_false]at h;cases hb:(decide (0<c.conds.length)||(!iX c.id||decide (c.attr.length=0)))with
 |true=>rw[hb]at h;simp at h
 |false=>
  simp only[Bool.or_eq_false_iff,Bool.not_eq_false']at hb;exact TN hb.2.1
mutual
theorem Qx:∀(c:ae) (a d:Nat),cW c->(∀x∈gD c a d,bw x.2.2 x.2.1=0)->tc c
 | .mk k g i at_ v ac cs,a,d,hl,h=>by
   have h0:=h (a,d,.mk k g i at_ v ac cs) (by simp[gD])
   exact⟨hl,λhk=>Sj h0 hk,AH cs (a+1) (d+1) ((bG _).1 hl).2.2.2.2.2 λx hx=>h x (by simp[gD,hx])⟩
theorem AH:∀(l:List ae) (a d:Nat),bX l->(∀x∈cX l a d,bw x.2.2 x.2.1=0)->ta l
 |[],_,_,_,_=>trivial
 |c::cs,a,d,hl,h=>⟨Qx c a d hl.1 λx hx=>h x (by simp[cX,hx]),AH cs (a+aO c) d hl.2 λx hx=>h x (by simp[cX,hx])⟩
end
structure qL(p:Prod):Prop where
 chk:(bT p).2.1=0
 sk:bX p.conds
theorem qL.facts{p:Prod}(h:qL p):ta p.conds/\Pb p.conds/\1<=ah p.conds/\ah p.conds<=16/\p.bk.length<=16/\p.conds≠[]/\p.conds.length<=16:=by
 have h1:=(D_ h.chk).1;obtain⟨s1,s2,_,s3,s4⟩:=wR h1;have:=cK p.conds;exact⟨AH _ 0 0 h.sk (Am h1),s4,s1,s2,s3,λe=>by rw[e]at s1;simp[ah]at s1,by omega⟩
def jJ(q:Prod):ByteArray:=q.name
def iw(B:Path->Nat)(q:Prod):RP.El:=(q.name,⟨q,dE B q.conds⟩)
structure wJ(x:NC)(T:Tree)(es:List aj)(ms:dg)(ids:pq)(tk:Path->List bW)(ct:Path->List Nat)(ps:List Prod)(w:Nat)(W:Path->Prop):Prop where
 core:jf x.T T es ms tk ct
 Hu:Tt T W
 ids:iV es ids
 root:x.root=T.B []
 tb:1<=x.T/\x.T<=1024
 mb:1<=x.M/\x.M<=1024
 Jo:b_ bE jJ ps
 Gt:∀q∈ps,qL q
 pD:∀q∈ps,q.conds∈T.D
 ends:∀p∈T.D,T.E p=(ps.filter λq=>decide (q.conds=p)).length
 tags:∀e∈es,1<=e.tag/\e.tag<9223372036854775808
 JL:ps.length<=w
 dl:T.D.length<=1+16*w
def cS(es:List aj)(ps:List Prod):Nat:=(ps.map λq=>(aE es q.conds).length).sum
@[reducible] def fQ(n:Nat)(x:NC)(es:List aj)(ms:dg)(ids:pq)(T:Tree)(tk:Path->List bW)(ct:Path->List Nat)(fr:Path->List bW)(mn:Path->List Nat)(ps:List Prod)(L:List aR):List aR:=
 an n x es ms ids::cg T tk ct fr mn::RP.cr x.pr (ps.map (iw T.B))::RT.At x.el es::L
def gB(n:Nat)(x:NC)(es:List aj)(ps:List Prod)(w:Nat):aR:=λμ=>∃T ms ids tk ct fr mn,(wJ x T es ms ids tk ct ps w (λ_=>False)/\((cS es ps:Nat):Int)<=x.M)/\Ow (fQ n x es ms ids T tk ct fr mn ps []) μ
theorem gB.open_{n:Nat}{x:NC}{es:List aj}{ps:List Prod}{w:Nat}{L:List aR}{μ:Mem}(h:Ow (gB n x es ps w::L) μ):∃T ms ids tk ct fr mn,(wJ x T es ms ids tk ct ps w (λ_=>False)/\((cS es ps:Nat):Int)<=x.M)/\Ow (fQ n x es ms ids T tk ct fr mn ps L) μ:=by
 obtain⟨T,h⟩:=Ow.ex h;obtain⟨ms,h⟩:=Ow.ex h;obtain⟨ids,h⟩:=Ow.ex h;obtain⟨tk,h⟩:=Ow.ex h;obtain⟨ct,h⟩:=Ow.ex h;obtain⟨fr,h⟩:=Ow.ex h;obtain⟨mn,h⟩:=Ow.ex h;obtain⟨hp,h⟩:=Ow.and h;exact⟨T,ms,ids,tk,ct,fr,mn,hp,h.nest⟩
theorem gB.shut{n:Nat}{x:NC}{es:List aj}{ps:List Prod}{w:Nat}{T:Tree}{ms:dg}{ids:pq}{tk:Path->List bW}{ct:Path->List Nat}{fr:Path->List bW}{mn:Path->List Nat}{L:List aR}{μ:Mem}(hp:wJ x T es ms ids tk ct ps w (λ_=>False))(hs:((cS es ps:Nat):Int)<=x.M)(h:Ow (fQ n x es ms ids T tk ct fr mn ps L) μ):Ow (gB n x es ps w::L) μ:=
 (Ow.pack (L1:=fQ n x es ms ids T tk ct fr mn ps []) h).imp λ_ hν=>⟨T,ms,ids,tk,ct,fr,mn,⟨hp,hs⟩,hν⟩
section
variable {n:Nat} {x:NC} {es:List aj} {ms:dg} {ids:pq} {T:Tree} {tk:Path->List bW} {ct:Path->List Nat} {fr:Path->List bW} {mn:Path->List Nat}
theorem Ek(B:Path->Nat){l:Path}(hl:l≠[])(tB:l.length<=1000):((dE B l).map λb=>[pP b 0])[Int.toNat (wrap .i64 (((((dE B l).map λb=>[pP b 0]).length:Nat):Int)-1))]?=some [pP (B l) 0]/\0<=wrap .i64 (((((dE B l).map λb=>[pP b 0]).length:Nat):Int)-1):=by
 have hp:0<l.length:=List.length_pos_iff.2 hl;have e:wrap .i64 (((((dE B l).map λb=>[pP b 0]).length:Nat):Int)-1)=((l.length-1:Nat):Int):=by
  rw[length_map,qY,aD (by omega) (by omega)];omega
 rw[e,Jk B l (by omega)];refine⟨?_,by omega⟩;rw[show l.length-1+1=l.length from by omega,take_length]
theorem Ew{α:Type}{f:α->Nat}{b:Nat}:∀{l:List α},(∀x∈l,f x<=b)->(l.map f).sum<=b*l.length
 |[],_=>by simp
 |x::l,h=>by
  have h1:=h x (by simp)
  have h2:=Ew (l:=l) λy hy=>h y (by simp[hy]);simp only[map_cons,sum_cons,length_cons];rw[Nat.mul_add];omega
theorem aih{ps:List Prod}(hlen:ps.length<=10000)(hD:∀q∈ps,q.conds∈T.D/\q.conds≠[]/\q.conds.length<=1000)(hle:∀q∈ps,(tk q.conds).length<=1025){L:List aR}{μ:Mem}(hO:Ow (an n x es ms ids::cg T tk ct fr mn::RP.cr x.pr (ps.map (iw T.B))::L) μ){K:Kq}
  (hk:∀μ',Ow (an n x es ms ids::cg T tk ct fr mn::RP.cr x.pr (ps.map (iw T.B))::L) μ'->K (pI (((ps.map λq=>(tk q.conds).length).sum:Nat):Int)) μ'):aa prog 107 [pP n 0] μ K:=by
 refine Ca.c λb3 Kr=>?_;refine(hO.new 3 [pI 0] Kr).st 0 rfl (by simp) λu h=>?_;refine⟨_,aJ (an.xp (x:=x) (es:=es) (ms:=ms) (ids:=ids) h (by simp)) (by simp),(RP.vK x.pr).call ⟨_,_,_,rfl,?_⟩⟩;have pG:((ps.map (iw T.B)).map λy=>[RP.cY y.1,RP.gP y.2]).length=ps.length:=by simp
 refine bu.own (RP.gn x.pr (ps.map (iw T.B)) (by simp;omega)) (Ow.at 3 rfl h)
  (λk u=>Ow (an n x es ms ids::cg T tk ct fr mn::RP.cr x.pr (ps.map (iw T.B))::Pt b3 3 [pI ((((ps.take k).map λq=>(tk q.conds).length).sum:Nat):Int)]::L) u) (λ_ _=>False) (λk=>eC.own _) (λ_ _ _ _ h=>h.elim) (λμ' h'=>?_) ?_ ?_ (λ_ _ h=>h.elim)
 ·have h2:Ow (RP.cr x.pr (ps.map (iw T.B))::Pt b3 3 [pI 0]::an n x es ms ids::cg T tk ct fr mn::L) μ':=h';exact Ow.ord [2,2,0,0] h2
 ·rintro k eK u2 R h2 ca _;have bZ:k<ps.length:=by simpa using eK
  have hm:=getElem_mem bZ;obtain⟨d1,d2,d3⟩:=hD _ hm;obtain⟨F,hF⟩:=cg.rd d1 (Ow.swap h2);obtain⟨w1,w2⟩:=Ek T.B d2 d3;rw[getElem_map,getElem_map];refine⟨_,_,_,_,_,_,_,_,rfl,_,h2.rd 3 rfl (by simp),w2,_,w1,_,rfl,?_⟩;dsimp only[nP,nn,aN];refine⟨_,_,aJ hF (by simp),?_⟩;refine h2.st 3 rfl (by simp) λu3 h3=>ca _ ?_;have hs:((ps.take (k+1)).map λq=>(tk q.conds).length).sum=((ps.take k).map λq=>(tk q.conds).length).sum+(tk ps[k].conds).length:=by
   rw[eP bZ,List.sum_append];simp
  have h4:=hle _ hm;have h5:=Ew (l:=ps.take k) (f:=λq=>(tk q.conds).length) (b:=1025) λq hq=>hle q (List.mem_of_mem_take hq);rw[length_take]at h5;have e:dx [pI ((((ps.take k).map λq=>(tk q.conds).length).sum:Nat):Int)] 0 [pI (wrap .i64 (((((ps.take k).map λq=>(tk q.conds).length).sum:Nat):Int)+((((tk ps[k].conds).map bW.pv).length:Nat):Int)))]=[pI ((((ps.take (k+1)).map λq=>(tk q.conds).length).sum:Nat):Int)]:=by
   rw[hs,length_map,aD (by omega) (by omega)];show[pI _]=_;congr 2
  rw[e]at h3;exact h3
 ·intro u2 h2;rw[pG,take_length]at h2;dsimp only[PK];exact⟨_,h2.rd 3 rfl (by simp),hk u2 (h2.tail λ_ h=>h.tail λ_ h=>h.tail λ_ h=>h.drop)⟩
end
theorem ak.Xx{α β γ:Type}{body:(α×β×Int->γ->Prop)->α×β×Int->γ->Prop}{x:α}{y:β}{u:γ}{n:Nat}(hn:n<9223372036854775808)(I:Nat->α->β->γ->Prop)(h0:I 0 x y u)
  (fE:∀(k:Nat) (x:α) (y:β) (u:γ) (next:α×β×Int->γ->Prop),k<n->I k x y u->(∀x' y' u',I (k+1) x' y' u'->next (x',y',wrap .i64 ((k:Int)+1)) u')->body next (x,y,(k:Int)) u) (eZ:∀(x:α) (y:β) (u:γ) (next:α×β×Int->γ->Prop),I n x y u->body next (x,y,(n:Int)) u):ak body (x,y,0) u:=by
 refine⟨λm s u=>∃k:Nat,s.2.2=(k:Int)/\k<=n/\I k s.1 s.2.1 u/\m=n-k,⟨n-0,0,rfl,Nat.zero_le _,h0,rfl⟩,?_⟩;rintro _ ⟨x,y,z⟩ u ⟨k,hz,hk,hI,rfl⟩;have hz:z=(k:Int):=hz;subst hz;by_cases bI:k<n
 ·refine fE k x y u _ bI hI λx' y' u' dG=>?_;rw[aD (by omega) (by omega)];exact⟨n-(k+1),by omega,k+1,by show(k:Int)+1=((k+1:Nat):Int);omega,by omega,dG,rfl⟩
 ·have:k=n:=by omega
  subst this;exact eZ x y u _ hI
def Tree.add(T:Tree)(q:Path)(c:ae)(xb:Nat)(aB:List Int)(s:Option Addr×Nat):Tree:=
 ⟨T.D++[q++[c]],aH T.B (q++[c]) xb,aH T.M (q++[c]) aB,aH T.E (q++[c]) 0,aH (aH T.K q (T.K q++[c])) (q++[c]) [],aH (aH T.S q s) (q++[c]) (none,0)⟩
section
variable {T:Tree} {q:Path} {c:ae} {xb:Nat} {aB:List Int} {s:Option Addr×Nat}
theorem rE.add(h:rE T)(hq:q∈T.D)(hn:q++[c]∉T.D)(hl:q.length<16)(hc:tc c)(hs:ah (q++[c])<=100)(hm:aB.length=aO c)(hf:T.D.length+1<=5000)(wH:∀j∈aB,-1<=j):rE (T.add q c xb aB s):=by
 have CA:∀r,r∈(T.add q c xb aB s).D↔r∈T.D\/r=q++[c]:=λr=>by unfold Tree.add;simp
 have aQ:∀r∈T.D,r≠q++[c]:=λr hr e=>hn (e▸hr);have hKo:∀r∈T.D,r≠q->(T.add q c xb aB s).K r=T.K r:=λr hr Rd=>by
  show aH (aH T.K q _) (q++[c]) [] r=_;rw[aW (aQ r hr),aW Rd]
 have Xo:(T.add q c xb aB s).K q=T.K q++[c]:=by
  show aH (aH T.K q _) (q++[c]) [] q=_;rw[aW (aQ q hq),cy]
 have hKn:(T.add q c xb aB s).K (q++[c])=[]:=cy _ _ _;refine⟨?_,(CA _).2 (.inl h.root),λp hp d=>?_,λp hp=>?_,λp d hd=>?_,λp hp=>?_,λp hp=>?_,λp hp=>?_,λp d hd=>?_,?_,?_,λp hp=>?_⟩
 ·refine nodup_append.2 ⟨h.nodup,by simp,λa ha b hb e=>?_⟩;simp only[mem_singleton]at hb;subst e hb;exact hn ha
 ·rw[CA];rcases(CA p).1 hp with hp|rfl
  ·by_cases e:p=q
   ·subst e;rw[Xo,mem_append,h.kids p hq d];simp only[mem_singleton];constructor
    ·rintro(h1|rfl)
     ·exact .inl h1
     ·exact .inr rfl
    ·rintro(h1|h1)
     ·exact .inl h1
     ·exact .inr (by simpa using h1)
   ·rw[hKo p hp e,h.kids p hp d];refine⟨.inl,λh1=>h1.resolve_right λe2=>e (append_inj' e2 rfl).1⟩
  ·rw[hKn];refine⟨λh1=>(by cases h1),?_⟩;rintro(h1|h1)
   ·exact absurd (h.up _ _ h1) hn
   ·have:=congrArg List.length h1;simp at this
 ·rcases(CA p).1 hp with hp|rfl
  ·by_cases e:p=q
   ·subst e;rw[Xo];refine nodup_append.2 ⟨h.HE p hq,by simp,λa ha b hb e=>?_⟩;simp only[mem_singleton]at hb;subst e hb;exact hn ((h.kids _ hq _).1 ha)
   ·rw[hKo p hp e];exact h.HE p hp
  ·rw[hKn];exact List.nodup_nil
 ·rcases(CA _).1 hd with hd|hd
  ·exact(CA _).2 (.inl (h.up _ _ hd))
  ·obtain⟨rfl,_⟩:=append_inj' hd rfl;exact(CA _).2 (.inl hq)
 ·rcases(CA p).1 hp with hp|rfl
  ·exact h.len p hp
  ·simp;omega
 ·rcases(CA p).1 hp with hp|rfl
  ·exact h.Yw p hp
  ·refine lC.2 λd hd=>?_;rcases mem_append.1 hd with hd|hd
   ·exact lC.1 (h.Yw q hq) d hd
   ·simp only[mem_singleton]at hd;subst hd;exact hc
 ·rcases(CA p).1 hp with hp|rfl
  ·exact h.size p hp
  ·exact hs
 ·show(aH T.M (q++[c]) aB (p++[d])).length=_;rcases(CA _).1 hd with hd|hd
  ·rw[aW (aQ _ hd)];exact h.ml p d hd
  ·rw[hd,cy];obtain⟨_,e⟩:=append_inj' hd rfl;simp only[List.cons.injEq,and_true]at e;rw[e];exact hm
 ·show aH T.M (q++[c]) aB []=[];rw[aW (aQ _ h.root)];exact h.m0
 ·show(T.D++[q++[c]]).length<=5000;rw[length_append,length_singleton];exact hf
 ·show ∀j∈aH T.M (q++[c]) aB p,-1<=j;rcases(CA p).1 hp with hp|rfl
  ·rw[aW (aQ p hp)];exact h.mge p hp
  ·rw[cy];exact wH
theorem RY{M:Path->List Int}{p:Path}{v:List Int}{D:List Path}(h:p∉D):D.flatMap (aH M p v)=D.flatMap M:=by
 induction D with
 |nil=>rfl
 |cons r D ih=>
  rw[flatMap_cons,flatMap_cons,ih λh'=>h (by simp[h']),aW λe=>h (by simp[e])]
theorem jf.add{B:Int}{es:List aj}{ms cu:dg}{tk:Path->List bW}{ct:Path->List Nat}(h:jf B T es ms tk ct)(hq:q∈T.D)(hn:q++[c]∉T.D)(hl:q.length<16)(hc:tc c)(hs:ah (q++[c])<=100)(hm:aB.length=aO c)(hf:T.D.length+1<=5000)(hu:fi es cu (aB++T.D.flatMap T.M))(hk:iq ms cu)(tE:ki cu aB 0 c)(hle:∀j,((du es c (aE es q) j:Nat):Int)<=B)(wH:∀j∈aB,-1<=j):
  jf B (T.add q c xb aB s) es cu (aH tk (q++[c]) (stepT es c (aE es q))) (aH ct (q++[c]) (kB es c (aE es q))):=by
 have CA:∀r,r∈(T.add q c xb aB s).D↔r∈T.D\/r=q++[c]:=λr=>by unfold Tree.add;simp
 have aQ:∀r∈T.D,r≠q++[c]:=λr hr e=>hn (e▸hr);have fE:∀{p:Path} {d:ae},p++[d]=q++[c]->p=q/\d=c:=λe=>by
  obtain⟨e1,e2⟩:=append_inj' e rfl;simp only[List.cons.injEq,and_true]at e2;exact⟨e1,e2⟩
 refine⟨h.tree.add hq hn hl hc hs hm hf wH,?_,λp d hd=>?_,⟨λp hp=>?_,λp d hd=>?_,λp d hd=>?_⟩⟩
 ·refine hu.perm ?_;show(aB++T.D.flatMap T.M).Perm ((T.D++[q++[c]]).flatMap (aH T.M (q++[c]) aB));rw[List.flatMap_append,RY hn];simpa using List.perm_append_comm
 ·show ki cu (aH T.M (q++[c]) aB (p++[d])) 0 d;rcases(CA _).1 hd with hd|hd
  ·rw[aW (aQ _ hd)];exact Bv hk d 0 (h.fit p d hd)
  ·obtain⟨e1,e2⟩:=fE hd;rw[hd,cy,e2];exact tE
 ·rcases(CA p).1 hp with hp|rfl
  ·rw[aW (aQ p hp)];exact h.dN.tok p hp
  ·rw[cy,dh]
 ·rcases(CA _).1 hd with hd|hd
  ·rw[aW (aQ _ hd)];exact h.dN.cnt p d hd
  ·obtain⟨e1,e2⟩:=fE hd;rw[hd,cy,e1,e2]
 ·rcases(CA _).1 hd with hd|hd
  ·exact h.dN.le p d hd
  ·obtain⟨e1,e2⟩:=fE hd;rw[e1,e2];exact hle
def sx(c:ae)(f:Fl)(aB:List Int)(ft:Fl)(ts:List bW)(fk:Fl)(cn:List Nat):lW:=⟨c,.sh,.sh,.sh,none,0,0,f,aB,ft,ts,fk,cn,0,.nil,[],.nil,[]⟩
theorem cg.aau{tk:Path->List bW}{ct:Path->List Nat}{fr:Path->List bW}{mn:Path->List Nat}(h:rE T)(hq:q∈T.D)(hn:q++[c]∉T.D){f ft fk:Fl}{ts:List bW}{cn:List Nat}{L:List aR}{μ:Mem}(hO:Ow (cg T tk ct fr mn::Pt xb 156 (sx c f aB ft ts fk cn).pv::L) μ){K:Mem->Prop}
  (hK:∀s μ',Ow (cg (T.add q c xb aB s) (aH tk (q++[c]) ts) (aH ct (q++[c]) cn) (aH fr (q++[c]) []) (aH mn (q++[c]) [])::L) μ'->K μ'):
  fA 1 8 131 (T.S q).1 (T.K q).length (T.S q).2 (.list 1 .nr [[pP xb 0]]) μ (λa n' c' u=>stM (T.B q) 7 [.raw (.slice a n' c')] u K):=by
 have Gx:=h.kl hq;have CC:=h.GC;obtain⟨A,B,F,e,h1⟩:=cg.out hq hO;have h2:Ow (Gv T q::Pt (T.B q) 156 (gz T tk ct fr mn q F).pv::Ow ((A++B).map (dU T tk ct fr mn))::Pt xb 156 (sx c f aB ft ts fk cn).pv::L) μ:=h1.swap;have vp:(gU T q).length=(T.K q).length:=by simp
 obtain⟨a,c0,ep,kg⟩:=cA.app h2 (λr hr=>by obtain⟨d,_,rfl⟩:=mem_map.1 hr;rfl);obtain⟨e1,_,e3⟩:(T.S q).1=a/\(T.K q).length=(gU T q).length/\(T.S q).2=c0:=by
  simp only[PV.raw.injEq,Value.slice.injEq]at ep;exact ep
 rw[<- e1,vp,<- e3]at kg;refine kg [pP xb 0] 8 (λa n' c' u=>stM (T.B q) 7 [.raw (.slice a n' c')] u K) rfl rfl (by omega) (by omega) λb' c' μ2 h3=>?_;refine h3.st 1 rfl (by simp) λu h4=>hK (some ⟨b',0,none⟩,c') u ?_;have aQ:∀r∈T.D,r≠q++[c]:=λr hr e=>hn (e▸hr);have HO:(A++q::B).Nodup:=by rw[<- e];exact h.nodup
 have Rd:∀r∈A++B,r∈T.D/\r≠q:=λr hr=>by
  obtain⟨n1,n2,n3⟩:=nodup_append.1 HO;refine⟨by rw[e];rcases mem_append.1 hr with h|h<;>simp[h],?_⟩;rintro rfl;rcases mem_append.1 hr with h|h
  ·exact n3 r h r (by simp) rfl
  ·exact(nodup_cons.1 n2).1 h
 generalize hs:((some ⟨b',0,none⟩,c'):Option Addr×Nat)=s;have Kb:s.1=some ⟨b',0,none⟩:=by rw[<- hs]
 have DK:s.2=c':=by rw[<- hs]
 generalize HY:T.add q c xb aB s=T';have ZD:∀r,r≠q++[c]->T'.B r=T.B r:=λr hr=>by rw[<- HY];exact aW hr
 have hold:(A++B).map (dU T' (aH tk (q++[c]) ts) (aH ct (q++[c]) cn) (aH fr (q++[c]) []) (aH mn (q++[c]) []))=(A++B).map (dU T tk ct fr mn):=map_congr_left λr hr=>by
  obtain⟨Ph,DL⟩:=Rd r hr;have Vc:=aQ r Ph;refine cg.KE (ZD r Vc) (by rw[<- HY];exact aW Vc) (by rw[<- HY];exact aW Vc) ?_ ?_ (λd hd=>ZD _ (aQ _ ((h.kids r Ph d).1 hd))) (aW Vc) (aW Vc) (aW Vc) (aW Vc)
  ·rw[<- HY];show aH (aH T.K q _) (q++[c]) [] r=_;rw[aW Vc,aW DL]
  ·rw[<- HY];show aH (aH T.S q _) (q++[c]) _ r=_;rw[aW Vc,aW DL]
 have HK:=aQ q hq;have Xo:T'.K q=T.K q++[c]:=by
  rw[<- HY];show aH (aH T.K q _) (q++[c]) [] q=_;rw[aW HK,cy]
 have hSq:T'.S q=s:=by
  rw[<- HY];show aH (aH T.S q _) (q++[c]) _ q=_;rw[aW HK,cy]
 have hKn:T'.K (q++[c])=[]:=by rw[<- HY];exact cy _ _ _
 have hSn:T'.S (q++[c])=(none,0):=by rw[<- HY];exact cy _ _ _
 have hBn:T'.B (q++[c])=xb:=by rw[<- HY];exact cy _ _ _
 have hMn:T'.M (q++[c])=aB:=by rw[<- HY];exact cy _ _ _
 have hEn:T'.E (q++[c])=0:=by rw[<- HY];exact cy _ _ _
 have hMq:T'.M q=T.M q:=by rw[<- HY];exact aW HK
 have hEq:T'.E q=T.E q:=by rw[<- HY];exact aW HK
 have agL:(gz T' (aH tk (q++[c]) ts) (aH ct (q++[c]) cn) (aH fr (q++[c]) []) (aH mn (q++[c]) []) q F).pv=dx (gz T tk ct fr mn q F).pv 7 [.raw (.slice (some ⟨b',0,none⟩) ((T.K q).length+1) c')]:=by
  unfold gz lW.pv;rw[Xo,hSq,hMq,hEq,aW HK,aW HK,aW HK,aW HK,Kb,DK,length_append];rfl
 have hVq:Gv T' q=cA 131 1 (.raw (.slice (some ⟨b',0,none⟩) ((T.K q).length+1) c')) (gU T q++[[pP xb 0]]):=by
  unfold Gv gU;rw[Xo,hSq,Kb,DK,length_append,map_append,map_cons,map_nil,hBn];rw[map_congr_left λd hd=>by rw[ZD _ (aQ _ ((h.kids q hq d).1 hd))]];rfl
 have agM:(gz T' (aH tk (q++[c]) ts) (aH ct (q++[c]) cn) (aH fr (q++[c]) []) (aH mn (q++[c]) []) (q++[c]) ⟨.sh,.sh,.sh,f,ft,fk,.nil,.nil⟩).pv=(sx c f aB ft ts fk cn).pv:=by
  unfold gz sx lW.pv;simp only[ot,cy,hKn,hSn,hMn,hEn];rfl
 have hVn:Gv T' (q++[c])=cA 131 1 (.raw (.slice none 0 0)) []:=by
  unfold Gv gU;rw[hKn,hSn];rfl
 have h5:Ow (Pt (T.B q) 156 (dx (gz T tk ct fr mn q F).pv 7 [.raw (.slice (some ⟨b',0,none⟩) ((T.K q).length+1) c')])::cA 131 1 (.raw (.slice (some ⟨b',0,none⟩) ((T.K q).length+1) c')) (gU T q++[[pP xb 0]])::Ow ((A++B).map (dU T tk ct fr mn))::Pt xb 156 (sx c f aB ft ts fk cn).pv::L) u:=h4.swap;have h6:Ow (dU T' (aH tk (q++[c]) ts) (aH ct (q++[c]) cn) (aH fr (q++[c]) []) (aH mn (q++[c]) []) q::Ow ((A++B).map (dU T' (aH tk (q++[c]) ts) (aH ct (q++[c]) cn) (aH fr (q++[c]) []) (aH mn (q++[c]) [])))::dU T' (aH tk (q++[c]) ts) (aH ct (q++[c]) cn) (aH fr (q++[c]) []) (aH mn (q++[c]) []) (q++[c])::L) u:=by
  rw[hold];have h7:Ow ([Pt (T.B q) 156 (dx (gz T tk ct fr mn q F).pv 7 [.raw (.slice (some ⟨b',0,none⟩) ((T.K q).length+1) c')]),cA 131 1 (.raw (.slice (some ⟨b',0,none⟩) ((T.K q).length+1) c')) (gU T q++[[pP xb 0]])]++(Ow ((A++B).map (dU T tk ct fr mn))::Pt xb 156 (sx c f aB ft ts fk cn).pv::L)) u:=h5;have g1:∀ν,Ow [Pt (T.B q) 156 (dx (gz T tk ct fr mn q F).pv 7 [.raw (.slice (some ⟨b',0,none⟩) ((T.K q).length+1) c')]),cA 131 1 (.raw (.slice (some ⟨b',0,none⟩) ((T.K q).length+1) c')) (gU T q++[[pP xb 0]])] ν->dU T' (aH tk (q++[c]) ts) (aH ct (q++[c]) cn) (aH fr (q++[c]) []) (aH mn (q++[c]) []) q ν:=λν hν=>⟨F,by rw[agL,hVq,ZD q HK];exact hν⟩;have g2:∀ν,Ow [Pt xb 156 (sx c f aB ft ts fk cn).pv,cA 131 1 (.raw (.slice none 0 0)) []] ν->dU T' (aH tk (q++[c]) ts) (aH ct (q++[c]) cn) (aH fr (q++[c]) []) (aH mn (q++[c]) []) (q++[c]) ν:=λν hν=>⟨⟨.sh,.sh,.sh,f,ft,fk,.nil,.nil⟩,by rw[agM,hVn,hBn];exact hν⟩;refine(h7.pack.imp g1).tail λν hν=>hν.tail λν2 h8=>?_;have h9:Ow ([Pt xb 156 (sx c f aB ft ts fk cn).pv,cA 131 1 (.raw (.slice none 0 0)) []]++L) ν2:=h8.tail λ_ h=>cA.nil _ _ h;exact h9.pack.imp g2
 unfold cg;have hD:T'.D=A++q::(B++[q++[c]]):=by
  rw[<- HY];show T.D++[q++[c]]=_;rw[e];simp
 rw[hD,map_append,map_cons,map_append];refine Ow.pack ?_;rw[append_assoc];refine Ow.Ls (L1:=A.map (dU T' (aH tk (q++[c]) ts) (aH ct (q++[c]) cn) (aH fr (q++[c]) []) (aH mn (q++[c]) []))) (L:=(B.map (dU T' (aH tk (q++[c]) ts) (aH ct (q++[c]) cn) (aH fr (q++[c]) []) (aH mn (q++[c]) []))++[q++[c]].map (dU T' (aH tk (q++[c]) ts) (aH ct (q++[c]) cn) (aH fr (q++[c]) []) (aH mn (q++[c]) [])))++L) (h6.tail λν hν=>?_);have h7:=hν.nest;rw[map_append,append_assoc]at h7;rw[append_assoc];exact h7
end
def dj(B:Int)(es:List aj)(l:List ae):Prop:=∃(i:Nat) (h:i<l.length) (j:Nat),B<((du es l[i] (aE es (l.take i)) j:Nat):Int)
inductive qW(B M:Int)(es:List aj)(ps:List Prod)(p:Prod):Int->List Prod->Prop
 |form (h:(bT p).2.1≠0):qW B M es ps p (bT p).2.1 ps
 |there (h:(bT p).2.1=0) (h2:(aL bE jJ p.name ps).isSome):qW B M es ps p 3 ps
 |dN (h:(bT p).2.1=0) (h2:aL bE jJ p.name ps=none) (h3:dj B es p.conds):qW B M es ps p 25 ps
 |dZ (h:(bT p).2.1=0) (h2:aL bE jJ p.name ps=none) (h3:¬dj B es p.conds) (h4:M<((cS es ps+(aE es p.conds).length:Nat):Int)):qW B M es ps p 26 ps
 |ok (h:(bT p).2.1=0) (h2:aL bE jJ p.name ps=none) (h3:¬dj B es p.conds) (h4:((cS es ps+(aE es p.conds).length:Nat):Int)<=M):qW B M es ps p 0 (aZ bE jJ p ps)
theorem LP{T:Tree}(h:rE T){B':Path->Nat}(hB:∀r∈T.D,B' r=T.B r){l:Path}(hl:l∈T.D):dE B' l=dE T.B l:=by
 unfold dE;exact map_congr_left λi _=>hB _ (h.Qp hl (List.take_prefix _ _))
theorem Qr{T:Tree}(h:rE T){B':Path->Nat}(hB:∀r∈T.D,B' r=T.B r){ps:List Prod}(hl:∀q∈ps,q.conds∈T.D):ps.map (iw B')=ps.map (iw T.B):=
 map_congr_left λq hq=>by unfold iw;rw[LP h hB (hl q hq)]
theorem sw(B:Path->Nat)(s:ByteArray)(ps:List Prod):aL RP.ck RP.key (RP.key (s,RP.z)) (ps.map (iw B))=(aL bE jJ s ps).map (iw B):=nG
theorem wJ.u{x:NC}{T:Tree}{es:List aj}{ms:dg}{ids:pq}{tk:Path->List bW}{ct:Path->List Nat}{ps:List Prod}{w:Nat}{W:Path->Prop}(h:wJ x T es ms ids tk ct ps w W):b_ RP.ck RP.key (ps.map (iw T.B)):=b_.map h.Jo
section
variable {n:Nat} {x:NC} {es:List aj} {ms:dg} {ids:pq} {T:Tree} {tk:Path->List bW} {ct:Path->List Nat} {fr:Path->List bW} {mn:Path->List Nat} {ps:List Prod} {w:Nat} {W:Path->Prop}
theorem wJ.mono(h:wJ x T es ms ids tk ct ps w W){w':Nat}(hw:w<=w'){W':Path->Prop}(hW:∀r,W r->W' r):wJ x T es ms ids tk ct ps w' W':=
 ⟨h.core,λr h1 h2 h3=>h.Hu r h1 h2 λh4=>h3 (hW r h4),h.ids,h.root,h.tb,h.mb,h.Jo,h.Gt,h.pD,h.ends,h.tags,le_trans h.JL hw,by have:=h.dl;omega⟩
theorem Oz(h:wJ x T es ms ids tk ct ps w W){q:Prod}(hq:q∈ps):0<T.E q.conds:=by
 rw[h.ends _ (h.pD q hq)];exact List.length_pos_of_mem (mem_filter.2 ⟨hq,by simp⟩)
theorem wJ.Qn(h:wJ x T es ms ids tk ct ps w W){T':Tree}{cu:dg}(hC:jf x.T T' es cu tk ct)(hN:Tt T' λ_=>False)(hB:T'.B=T.B)(hE:T'.E=T.E)(ke:∀r∈T'.D,r∈T.D)(ss:∀r∈T.D,0<T.E r->r∈T'.D):wJ x T' es cu ids tk ct ps w λ_=>False:=
 ⟨hC,hN,h.ids,by rw[hB];exact h.root,h.tb,h.mb,h.Jo,h.Gt,λq hq=>ss _ (h.pD q hq) (Oz h hq),λp hp=>by rw[hE];exact h.ends p (ke p hp),h.tags,h.JL,le_trans (jl hC.tree.nodup ke) h.dl⟩
theorem wJ.add{q:Path}{c:ae}{xb:Nat}{aB:List Int}{s:Option Addr×Nat}{cu:dg}(h:wJ x T es ms ids tk ct ps w (λr=>r <+: q))(hq:q∈T.D)(hn:q++[c]∉T.D)(hl:q.length<16)(hc:tc c)(hs:ah (q++[c])<=100)(hm:aB.length=aO c)(hf:T.D.length+1<=5000)(hu:fi es cu (aB++T.D.flatMap T.M))(hk:iq ms cu)(tE:ki cu aB 0 c)(hle:∀j,((du es c (aE es q) j:Nat):Int)<=x.T)(hdl:T.D.length+1<=1+16*w)(wH:∀j∈aB,-1<=j):
  wJ x (T.add q c xb aB s) es cu ids (aH tk (q++[c]) (stepT es c (aE es q))) (aH ct (q++[c]) (kB es c (aE es q))) ps w (λr=>r <+: q++[c]):=by
 have CA:∀r,r∈(T.add q c xb aB s).D↔r∈T.D\/r=q++[c]:=λr=>by unfold Tree.add;simp
 have aQ:∀r∈T.D,r≠q++[c]:=λr hr e=>hn (e▸hr);refine⟨h.core.add hq hn hl hc hs hm hf hu hk tE hle wH,λr hr Mh hW=>?_,h.ids,?_,h.tb,h.mb,h.Jo,h.Gt,λp hp=>(CA _).2 (.inl (h.pD p hp)),λp hp=>?_,h.tags,h.JL,?_⟩
 ·have hW:¬r <+: q++[c]:=hW;have Vb:r∈T.D:=((CA r).1 hr).resolve_right λe=>hW (by rw[e];exact prefix_refl _);have Rd:r≠q:=λe=>hW (by rw[e];exact prefix_append _ _);have h1:=h.Hu r Vb Mh λh2=>hW (List.IsPrefix.trans h2 (prefix_append _ _));show aH (aH T.K q _) (q++[c]) [] r≠[]\/0<aH T.E (q++[c]) 0 r;rw[aW (aQ r Vb),aW Rd,aW (aQ r Vb)];exact h1
 ·show x.root=aH T.B (q++[c]) xb [];rw[aW (aQ _ h.core.tree.root)];exact h.root
 ·show aH T.E (q++[c]) 0 p=_;rcases(CA p).1 hp with hp|rfl
  ·rw[aW (aQ p hp)];exact h.ends p hp
  ·rw[cy];symm;rw[List.length_eq_zero_iff,List.filter_eq_nil_iff];intro p hp e;have e:p.conds=q++[c]:=by simpa using e
   exact hn (e▸h.pD p hp)
 ·show(T.D++[q++[c]]).length<=_;rw[length_append,length_singleton];exact hdl
def Tree.ends(T:Tree)(p:Path)(v:Nat):Tree:=⟨T.D,T.B,T.M,aH T.E p v,T.K,T.S⟩
theorem rE.ends{p:Path}{v:Nat}(h:rE T):rE (T.ends p v):=⟨h.nodup,h.root,h.kids,h.HE,h.up,h.len,h.Yw,h.size,h.ml,h.m0,h.GC,h.mge⟩
theorem jf.ends{B:Int}{p:Path}{v:Nat}(h:jf B T es ms tk ct):jf B (T.ends p v) es ms tk ct:=⟨h.tree.ends,h.use,h.fit,⟨h.dN.tok,h.dN.cnt,h.dN.le⟩⟩
theorem cg.ends{p:Path}{v:Nat}{A B:List Path}{F:Fls}(hn:T.D.Nodup)(e:T.D=A++p::B){L:List aR}{μ:Mem}(h:Ow (Pt (T.B p) 156 (dx (gz T tk ct fr mn p F).pv 11 [pI ((v:Nat):Int)])::Gv T p::Ow ((A++B).map (dU T tk ct fr mn))::L) μ):Ow (cg (T.ends p v) tk ct fr mn::L) μ:=by
 refine cg.in_ (T:=T.ends p v) e (F:=F) ?_;have ja:(A++B).map (dU (T.ends p v) tk ct fr mn)=(A++B).map (dU T tk ct fr mn):=map_congr_left λr hr=>by
  have Rd:r≠p:=by
   rintro rfl;rw[e]at hn;obtain⟨n1,n2,n3⟩:=nodup_append.1 hn;rcases mem_append.1 hr with h|h
   ·exact n3 r h r (by simp) rfl
   ·exact(nodup_cons.1 n2).1 h
  exact cg.KE (T:=T) (T':=T.ends p v) rfl rfl (aW Rd) rfl rfl (λ_ _=>rfl) rfl rfl rfl rfl
 rw[ja];have kZ:(gz (T.ends p v) tk ct fr mn p F).pv=dx (gz T tk ct fr mn p F).pv 11 [pI ((v:Nat):Int)]:=by
  unfold gz lW.pv Tree.ends;simp only[cy];rfl
 rw[kZ];exact h
theorem C_{a b:List Prod}(h:a.Perm b):cS es a=cS es b:=z_ (h.map _)
theorem wJ.put{p:Prod}(h:wJ x T es ms ids tk ct ps w (λr=>r <+: p.conds))(hp:qL p)(hD:p.conds∈T.D)(hn:aL bE jJ p.name ps=none)(hw:ps.length+1<=w):wJ x (T.ends p.conds (T.E p.conds+1)) es ms ids tk ct (aZ bE jJ p ps) w (λ_=>False):=by
 have so:=nD (ck:=bE) (key:=jJ) cJ (L:=ps) (x:=p) hn;refine⟨h.core.ends,λr hr Mh _=>?_,h.ids,h.root,h.tb,h.mb,h.Jo.ins cJ p,λq hq=>?_,λq hq=>?_,λr hr=>?_,h.tags,?_,h.dl⟩
 ·show T.K r≠[]\/0<aH T.E p.conds (T.E p.conds+1) r;by_cases e:r=p.conds
  ·right;rw[e,cy];omega
  ·rw[aW e];by_cases fK:r <+: p.conds
   ·left;obtain⟨s,hs⟩:=fK;cases s with
    |nil=>rw[append_nil]at hs;exact absurd hs e
    |cons d s=>
     have:r++[d]∈T.D:=h.core.tree.Qp hD ⟨s,by rw[<- hs];simp⟩;have:=(h.core.tree.kids r hr d).2 this;intro e0;rw[e0]at this;cases this
   ·exact h.Hu r hr Mh fK
 ·rcases(bh cJ).1 hq with rfl|⟨h1,_⟩
  ·exact hp
  ·exact h.Gt q h1
 ·rcases(bh cJ).1 hq with rfl|⟨h1,_⟩
  ·exact hD
  ·exact h.pD q h1
 ·show aH T.E p.conds (T.E p.conds+1) r=_;rw[(so.filter _).length_eq,filter_cons];by_cases e:r=p.conds
  ·rw[e,cy,if_pos (by simp),length_cons,h.ends _ hD]
  ·rw[aW e,if_neg (by simpa using λe'=>e e'.symm),h.ends r hr]
 ·rw[so.length_eq,length_cons];exact hw
end
section
variable {n:Nat} {x:NC} {es:List aj} {ps:List Prod} {w:Nat}
theorem Jl(B:Path->Nat)(l:Path){i:Nat}(hi:i<l.length):dE B (l.take (i+1))=dE B (l.take i)++[B (l.take (i+1))]:=by
 unfold dE;rw[length_take,length_take,min_eq_left (by omega),min_eq_left (by omega),List.range_succ,map_append];congr 1
 ·refine map_congr_left λj hj=>?_;have Jd:=List.mem_range.1 hj;rw[take_take,take_take,min_eq_left (by omega),min_eq_left (by omega)]
 ·simp[take_take]
theorem XE(hw:w<100)(fc fa:Fl)(p:Prod)(hlp:bX p.conds)(DJ:ah p.conds<=1000000)(Pp:p.bk.length<=1000000){L:List aR}{μ:Mem}(hO:Ow (gB n x es ps w::L) μ){K:Kq}
  (hk:∀e Gs μ',qW x.T x.M es ps p e Gs->Ow (gB n x es Gs (w+1)::L) μ'->K (pI e) μ'):
  aa prog 41 [pP n 0,.agg [pS p.name,.list 7 fc (p.conds.map ae.pv),.list 19 fa (p.bk.map cT.pv)]] μ K:=by
 obtain⟨T,ms,ids,tk,ct,fr,mn,⟨hR,mV⟩,h1⟩:=gB.open_ hO;obtain⟨ht1,YO⟩:=hR.tb;obtain⟨yC,sq⟩:=hR.mb;have acV:=hR.JL;refine Cd.c ((aal .sh .sh p hlp DJ Pp).call ⟨_,_,rfl,ab.mk (λhc=>?_) (λhc=>?_)⟩)
 ·exact hk _ _ _ (.form (by simpa using hc)) (gB.shut (hR.mono (by omega) λ_ h=>h) mV (show Ow (fQ n x es ms ids T tk ct fr mn ps L) μ from h1))
 have HW:(bT p).2.1=0:=by simpa using hc
 have hpk:qL p:=⟨HW,hlp⟩;obtain⟨agP,alo,acK,acJ,hac,aQ,hlen⟩:=hpk.facts;have Xn:(ps.map (iw T.B)).length<=100:=by rw[length_map];have:=hR.JL;omega
 refine⟨λ_ u=>aL bE jJ p.name ps=none/\Ow (fQ n x es ms ids T tk ct fr mn ps L) u,?_,?_⟩
 ·
  dsimp only[nP,nn,aN];refine⟨_,aJ (an.xp (x:=x) (es:=es) (ms:=ms) (ids:=ids) h1 (by simp)) (by simp),?_,λb7 HX=>?_⟩
  ·refine RP.gO (Ow.at 2 rfl h1) hR.u (by omega) p.name (λy μ' hy h2=>?_) (λμ' hy h2=>?_)
   ·refine⟨_,_,_,_,_,_,_,_,rfl,λb7 HX=>?_⟩;refine(h2.new 129 _ HX).st 0 rfl (by simp) λu2 h3=>ab.t rfl (hk _ _ _ (.there HW ?_) (gB.shut (fr:=fr) (mn:=mn) (hR.mono (by omega) λ_ h=>h) mV ?_))
    ·rw[sw]at hy;cases hg:aL bE jJ p.name ps with
     |some z=>rfl
     |none=>rw[hg]at hy;cases hy
    ·exact Ow.ord [1,1,0] h3.drop
   ·refine⟨_,_,_,_,_,_,_,_,rfl,λb7 HX=>?_⟩;refine(h2.new 129 _ HX).st 0 rfl (by simp) λu2 h3=>ab.f rfl ⟨?_,?_⟩
    ·rw[sw]at hy;cases hg:aL bE jJ p.name ps with
     |some z=>rw[hg]at hy;cases hy
     |none=>rfl
    ·exact Ow.ord [1,1,0] h3.drop
  ·have h1b:=h1.new 129 [pS ⟨#[]⟩,.list 7 .nil [],.list 19 .nil [],.list 1 .nil []] HX;refine RP.gO (Ow.at 3 rfl h1b) hR.u (by omega) p.name (λy μ' hy h2=>?_) (λμ' hy h2=>?_)
   ·refine⟨_,_,_,_,_,_,_,_,rfl,?_⟩;refine h2.st 1 rfl (by simp) λu2 h3=>ab.t rfl (hk _ _ _ (.there HW ?_) (gB.shut (fr:=fr) (mn:=mn) (hR.mono (by omega) λ_ h=>h) mV ?_))
    ·rw[sw]at hy;cases hg:aL bE jJ p.name ps with
     |some z=>rfl
     |none=>rw[hg]at hy;cases hy
    ·exact Ow.ord [1,1,0] (Ow.drop (Ow.ord [1] h3))
   ·refine⟨_,_,_,_,_,_,_,_,rfl,?_⟩;refine h2.st 1 rfl (by simp) λu2 h3=>ab.f rfl ⟨?_,?_⟩
    ·rw[sw]at hy;cases hg:aL bE jJ p.name ps with
     |some z=>rw[hg]at hy;cases hy
     |none=>rfl
    ·exact Ow.ord [1,1,0] (Ow.drop (Ow.ord [1] h3))
 rintro _ u1 ⟨hg,h2⟩;dsimp only[nP,nn,aN];refine⟨_,aJ (an.xp (x:=x) (es:=es) (ms:=ms) (ids:=ids) h2 (by simp)) (by simp),?_⟩;refine ak.Xx (n:=p.conds.length) (by omega) (λi s y u=>∃T ms tk ct fr mn,(s=some ⟨T.B (p.conds.take i),0,none⟩/\y.2=(dE T.B (p.conds.take i)).map (λb=>[pP b 0])/\wJ x T es ms ids tk ct ps (w+1) (λr=>r <+: p.conds.take i)/\p.conds.take i∈T.D/\T.D.length<=1+16*w+i)/\Ow (fQ n x es ms ids T tk ct fr mn ps (e_ y.1 i 1::L)) u) ?_ ?_ ?_
 ·refine⟨T,ms,tk,ct,fr,mn,⟨?_,by simp[dE],hR.mono (by omega) λ_ h=>h.elim,hR.core.tree.root,by have:=hR.dl;omega⟩,?_⟩
  ·rw[List.take_zero,<- hR.root]
  ·exact h2.tail λ_ h=>h.tail λ_ h=>h.tail λ_ h=>h.tail λ_ h=>h.nil (.inl rfl)
 ·have Ra:=mV;clear hR mV h1 h2 Xn;rintro i s ⟨fl,_⟩ u next hi ⟨T,ms,tk,ct,fr,mn,⟨rfl,rfl,hR,vq,hdl⟩,h2⟩ av
  have ep:p.conds.take (i+1)=p.conds.take i++[p.conds[i]]:=by rw[take_add_one,getElem?_eq_getElem hi];rfl
  have hql:(p.conds.take i).length=i:=by rw[length_take];omega
  have eb:=lC.1 agP _ (getElem_mem hi);have UX:ah (p.conds.take (i+1))<=16:=le_trans (gJ _ _) acJ;have ajd:aO p.conds[i]<=16:=by rw[mD hi]at UX;omega
  generalize hq:p.conds.take i=q at*
  have hci:p.conds[i]=p.conds[i]:=rfl;generalize hc:p.conds[i]=c at*
  have hqE:dE T.B q=dE T.B (p.conds.take i):=by rw[hq]
  dsimp only;refine ab.t (by simpa using hi) ⟨by omega,_,aC hi,_,_,_,_,_,_,_,_,_,_,jD _,?_⟩;rw[hc];have Xe:∀(T':Tree) (cu:dg) (wE:Path->List bW) (yO:Path->List Nat) (nH:Path->List bW) (mZ:Path->List Nat) (u':Mem),wJ x T' es cu ids wE yO ps (w+1) (λr=>r <+: q++[c])->q++[c]∈T'.D->T'.D.length<=1+16*w+(i+1)->dE T'.B q=dE T.B q->Ow (fQ n x es cu ids T' wE yO nH mZ ps (e_ fl i 1::L)) u'->aT false 1 8 fl ((dE T.B q).map λb=>[pP b 0]) [[pP (T'.B (q++[c])) 0]] u' λf95 afV=>next (some ⟨T'.B (q++[c]),0,none⟩,(f95,(((dE T.B q).map λb=>[pP b 0])++[[pP (T'.B (q++[c])) 0]])),(wrap .i64 ((i:Int)+(1)))) afV:=λT' cu wE yO nH mZ u' hR' Oj Zo YM h3=>by
   have h4:Ow (e_ fl i 1::an n x es cu ids::cg T' wE yO nH mZ::RP.cr x.pr (ps.map (iw T'.B))::RT.At x.el es::L) u':=Ow.ord [4] h3;refine h4.app (by rw[length_map,qY,hql]) (by simp;omega) (by simp;omega) λf' u2 h5=>av _ _ _ ⟨T',cu,wE,yO,nH,mZ,⟨by rw[ep],?_,by rw[ep];exact hR',by rw[ep];exact Oj,Zo⟩,?_⟩
   ·rw[Jl T'.B p.conds hi,map_append,hq,ep,YM];rfl
   ·exact Ow.ord [1,1,1,1,0] h5
  refine aie hR.core.tree vq c _ _ _ (Ow.swap h2) (λfE=>⟨_,rfl,?_⟩) (λYZ=>⟨_,rfl,?_⟩)
  ·refine⟨λs u'=>s=some ⟨T.B (q++[c]),0,none⟩/\u'=u,ab.f rfl ⟨rfl,rfl⟩,?_⟩;rintro s u' ⟨rfl,rfl⟩;exact Xe T ms tk ct fr mn u' (hR.mono (le_refl _) λr (hr:r <+: q)=>hr.trans (prefix_append _ _)) fE (by omega) rfl h2
  ·have fR:=hR.core.tree.GC;have WY:=hR.core.acg;have alc:=hR.core.tree.len q vq;refine⟨λs u'=>∃T' cu wE yO nH mZ,(s=some ⟨T'.B (q++[c]),0,none⟩/\wJ x T' es cu ids wE yO ps (w+1) (λr=>r <+: q++[c])/\q++[c]∈T'.D/\T'.D.length<=1+16*w+(i+1)/\dE T'.B q=dE T.B q)/\Ow (fQ n x es cu ids T' wE yO nH mZ ps (e_ fl i 1::L)) u',ab.t rfl ?_,?_⟩
   ·refine ZO hR.core.use (by omega) c eb (by omega) _ _ _ h2 λxb f cu aB gd pG tE yD wH u2 h3=>⟨_,rfl,?_⟩;dsimp only[nP,nn,aN];have h3n:Ow (cg T tk ct fr mn::an n x es cu ids::Pt xb 156 (iB c f aB).pv::RP.cr x.pr (ps.map (iw T.B))::RT.At x.el es::e_ fl i 1::L) u2:=Ow.ord [2] h3;obtain⟨F,hF⟩:=cg.rd vq h3n;have gf:=hR.core.dN.tok q vq;refine⟨_,_,aJ hF (by simp),?_⟩;dsimp only[gz];rw[gf];have hlq:(aE es q).length<=1000001:=by
     by_cases e:q=[]
     ·subst e;simp[aE]
     ·obtain⟨r,d,rfl⟩:=nW e;have h4:=hR.core.dN.le r d vq 0;rw[jt,<- dh]at h4;omega
    have hbb:=wM (es:=es) (oc (hR.core.tree.Yw q vq));have hsq:=hR.core.tree.size q vq;refine MF (n:=n) (x:=x) (ids:=ids) gd.inv hR.ids ⟨by omega,by omega⟩ (xb:=xb) (iB c f aB) eb (by show aO c<=100;omega) tE pG (aE es q) _ hlq (λt ht=>by have:=hbb t ht;omega) h3 (λhle f2 u3 h4=>⟨_,_,_,_,_,rfl,ab.f rfl ?_⟩) (λXf u3 h4=>⟨_,_,_,_,_,rfl,ab.t rfl ?_⟩)
    ·
     have hle:∀j,((du es c (aE es q) j:Nat):Int)<=x.T:=hle;refine h4.st 1 rfl (by simp) λu4 h5=>?_;refine h5.st 1 rfl (by simp[dx]) λu5 h6=>?_;have h6n:Ow (cg T tk ct fr mn::Pt xb 156 (sx c f aB f2 (stepT es c (aE es q)) .sh (kB es c (aE es q))).pv::an n x es cu ids::RP.cr x.pr (ps.map (iw T.B))::RT.At x.el es::e_ fl i 1::L) u5:=by
      have e:(sx c f aB f2 (stepT es c (aE es q)) .sh (kB es c (aE es q))).pv=dx (dx (iB c f aB).pv 9 [.list 2 f2 ((stepT es c (aE es q)).map bW.pv)]) 10 [.list 1 .sh ((kB es c (aE es q)).map qg)]:=rfl;rw[e];exact Ow.ord [2,1] h6
     obtain⟨F2,RV⟩:=cg.rd vq h6n;refine⟨_,_,_,aJ RV (by simp),?_⟩;dsimp only[gz];refine cg.aau hR.core.tree vq YZ h6n (K:=_) λs u6 h7=>?_;have agT:∀r∈T.D,r≠q++[c]:=λr hr e=>YZ (e▸hr);have ZD:∀r∈T.D,(T.add q c xb aB s).B r=T.B r:=λr hr=>aW (agT r hr);refine⟨T.add q c xb aB s,cu,aH tk (q++[c]) (stepT es c (aE es q)),aH ct (q++[c]) (kB es c (aE es q)),aH fr (q++[c]) [],aH mn (q++[c]) [],⟨?_,hR.add vq YZ (by omega) eb (by rw[<- ep];omega) pG (by omega) gd yD tE hle (by omega) wH,?_,?_,?_⟩,?_⟩
     ·show some (⟨xb,0,none⟩:Addr)=some ⟨aH T.B (q++[c]) xb (q++[c]),0,none⟩;rw[cy]
     ·show q++[c]∈T.D++[q++[c]];simp
     ·show(T.D++[q++[c]]).length<=_;rw[length_append,length_singleton];omega
     ·exact LP hR.core.tree ZD vq
     ·show Ow (an n x es cu ids::cg _ _ _ _ _::RP.cr x.pr (ps.map (iw (T.add q c xb aB s).B))::RT.At x.el es::e_ fl i 1::L) u6;rw[Qr hR.core.tree ZD hR.pD];exact Ow.swap h7
    ·
     obtain⟨j,hj⟩:=Xf;have hj:x.T<((du es c (aE es q) j:Nat):Int):=hj;refine MH (iB c f aB) (l:=T.D.flatMap T.M) gd (by show aB.length<=1000;omega) h4 λI_ Gw hK2 u4 h5=>⟨rfl,?_⟩;have hC2:jf x.T T es I_ tk ct:=⟨hR.core.tree,Gw,λr d hd=>tH (λj hj d' hm=>hK2 j d' (mem_flatMap.2 ⟨_,hd,hj⟩) (yD j d' hm)) d 0 (hR.core.fit r d hd),hR.core.dN⟩;have h6:Ow (an n x es I_ ids::cg T tk ct fr mn::RP.cr x.pr (ps.map (iw T.B))::RT.At x.el es::e_ fl i 1::L) u4:=h5.tail λ_ h=>h.drop;refine SG q (by omega) hC2 vq hR.Hu hR.root _ h6 λT' ms3 u5 hC3 hN3 hB3 hE3 ke ss h7=>⟨rfl,?_⟩;have hR2:wJ x T es I_ ids tk ct ps (w+1) (λr=>r <+: q):=⟨hC2,hR.Hu,hR.ids,hR.root,hR.tb,hR.mb,hR.Jo,hR.Gt,hR.pD,hR.ends,hR.tags,hR.JL,hR.dl⟩;refine hk _ _ _ (.dN HW hg ⟨i,hi,j,?_⟩) (gB.shut (fr:=fr) (mn:=mn) (hR2.Qn hC3 hN3 hB3 hE3 ke ss) ?_ ?_)
     ·rw[hc,hq];exact hj
     ·exact Ra
     ·show Ow (an n x es ms3 ids::cg T' tk ct fr mn::RP.cr x.pr (ps.map (iw T'.B))::RT.At x.el es::L) u5;rw[hB3];exact h7.tail λ_ h=>h.tail λ_ h=>h.tail λ_ h=>h.tail λ_ h=>h.drop
   ·rintro s u' ⟨T',cu,wE,yO,nH,mZ,⟨rfl,hR',Oj,Zo,YM⟩,h3⟩;exact Xe T' cu wE yO nH mZ u' hR' Oj Zo YM h3
 ·have Ra:=mV;clear hR mV h1 h2 Xn;rintro s ⟨fl,_⟩ u next ⟨T,ms,tk,ct,fr,mn,⟨rfl,rfl,hR,vq,hdl⟩,h2⟩
  dsimp only;rw[take_length]at hR vq |-;refine ab.f (by simp) ?_;have gf:=hR.core.dN.tok _ vq;have CC:=hR.core.tree.GC;have ac_:∀r∈T.D,(tk r).length<=1024:=λr hr=>by
   rw[hR.core.dN.tok r hr];by_cases e:r=[]
   ·subst e;simp[aE]
   ·obtain⟨q,d,rfl⟩:=nW e;have h4:=hR.core.dN.le q d hr 0;rw[jt,<- dh]at h4;omega
  have HM:¬dj x.T es p.conds:=by
   rintro⟨i,hi,j,hj⟩;have hD1:p.conds.take i++[p.conds[i]]∈T.D:=by
    have:p.conds.take (i+1)=p.conds.take i++[p.conds[i]]:=by rw[take_add_one,getElem?_eq_getElem hi];rfl
    rw[<- this];exact hR.core.tree.Qp vq (List.take_prefix _ _)
   have:=hR.core.dN.le _ _ hD1 j;omega
  have acL:(ps.map λq=>(tk q.conds).length).sum=cS es ps:=by
   unfold cS;congr 1;exact map_congr_left λq hq=>by rw[hR.core.dN.tok _ (hR.pD q hq)]
  have WX:ps.length<=100:=by have:=hR.JL;omega
  have Vj:∀{u':Mem} {Kx:Kq},Ow (fQ n x es ms ids T tk ct fr mn ps (e_ fl p.conds.length 1::L)) u'->(∀μ',Ow (fQ n x es ms ids T tk ct fr mn ps (e_ fl p.conds.length 1::L)) μ'->Kx (pI ((cS es ps:Nat):Int)) μ')->aa prog 107 [pP n 0] u' Kx:=λ{u' Kx} h3 hKx=>by
   refine aih (by omega) (λq hq=>?_) (λq hq=>Nat.le_succ_of_le (ac_ _ (hR.pD q hq))) h3 λμ' h4=>?_
   ·obtain⟨_,_,_,_,_,g1,g2⟩:=(hR.Gt q hq).facts;exact⟨hR.pD q hq,g1,by omega⟩
   ·rw[acL];exact hKx μ' h4
  have YS:∀{u':Mem},Ow (fQ n x es ms ids T tk ct fr mn ps (e_ fl p.conds.length 1::L)) u'->∃f,ay u' (T.B p.conds) (0+9) 1=some [.list 2 f ((aE es p.conds).map bW.pv)]:=λ{u'} h3=>by
   obtain⟨F,hF⟩:=cg.rd vq (Ow.swap h3);have:=aJ (o:=0+9) (n:=1) hF (by simp);dsimp only[gz]at this;rw[gf]at this;exact⟨_,this⟩
  have Va:∀{u':Mem},Ow (fQ n x es ms ids T tk ct fr mn ps (e_ fl p.conds.length 1::L)) u'->ay u' n (0+1) 1=some [pI x.M]:=λ{u'} h3=>aJ (an.xp (x:=x) (es:=es) (ms:=ms) (ids:=ids) h3 (by simp)) (by simp);have hJ:decide (wrap .i64 (((cS es ps:Nat):Int)+((((aE es p.conds).map bW.pv).length:Nat):Int))>x.M)=decide (x.M<((cS es ps+(aE es p.conds).length:Nat):Int)):=by
   have h5:=ac_ _ vq;rw[gf]at h5;rw[length_map,aD (by omega) (by omega)];congr 1
  refine⟨λb u'=>b=decide (x.M<((cS es ps+(aE es p.conds).length:Nat):Int))/\Ow (fQ n x es ms ids T tk ct fr mn ps (e_ fl p.conds.length 1::L)) u',?_,?_⟩
  ·dsimp only[nP,nn,aN];obtain⟨f0,hf0⟩:=YS h2;refine⟨⟨_,_,hf0,⟨_,Va h2,Vj h2 λμ' h4=>⟨_,rfl,hJ,h4⟩,trivial⟩,Vj h2 λμ' h4=>⟨_,rfl,_,Va h4,hJ,h4⟩,trivial⟩,⟨_,Va h2,Vj h2 λμ' h4=>?_,trivial⟩,Vj h2 λμ' h4=>?_,trivial⟩
   ·obtain⟨f1,hf1⟩:=YS h4;exact⟨_,rfl,_,_,hf1,hJ,h4⟩
   ·obtain⟨f1,hf1⟩:=YS h4;exact⟨_,rfl,_,_,hf1,_,Va h4,hJ,h4⟩
  ·rintro b u' ⟨rfl,h3⟩;refine ab.mk (λhb=>?_) (λhb=>?_)
   ·have jY:x.M<((cS es ps+(aE es p.conds).length:Nat):Int):=by simpa using hb
    refine SG p.conds (by omega) hR.core vq hR.Hu hR.root _ h3 λT' ms3 u5 hC3 hN3 hB3 hE3 ke ss h7=>⟨rfl,?_⟩;refine hk _ _ _ (.dZ HW hg HM jY) (gB.shut (fr:=fr) (mn:=mn) (hR.Qn hC3 hN3 hB3 hE3 ke ss) Ra ?_);show Ow (an n x es ms3 ids::cg T' tk ct fr mn::RP.cr x.pr (ps.map (iw T'.B))::RT.At x.el es::L) u5;rw[hB3];exact h7.tail λ_ h=>h.tail λ_ h=>h.tail λ_ h=>h.tail λ_ h=>h.drop
   ·have jY:((cS es ps+(aE es p.conds).length:Nat):Int)<=x.M:=by
     have:¬x.M<((cS es ps+(aE es p.conds).length:Nat):Int):=by simpa using hb
     omega
    have amx:T.E p.conds<=100:=by
     rw[hR.ends _ vq];exact le_trans (length_filter_le _ _) WX
    obtain⟨A,B,F,eD,h4⟩:=cg.out vq (Ow.swap h3);refine⟨_,h4.rd 0 rfl (by simp),?_⟩;refine h4.st 0 rfl (by simp) λu2 h5=>?_;have hw1:wrap .i64 (((T.E p.conds:Nat):Int)+1)=((T.E p.conds+1:Nat):Int):=by rw[aD (by omega) (by omega)];omega
    rw[hw1]at h5;have h6:Ow (cg (T.ends p.conds (T.E p.conds+1)) tk ct fr mn::an n x es ms ids::RP.cr x.pr (ps.map (iw T.B))::RT.At x.el es::e_ fl p.conds.length 1::L) u2:=cg.ends hR.core.tree.nodup eD h5;refine⟨_,aJ (an.xp (x:=x) (es:=es) (ms:=ms) (ids:=ids) h6 (by simp)) (by simp),?_⟩;have hpr:=ab7 .sh .sh p DJ hlp Pp;refine hpr.q ⟨_,_,_,_,_,rfl,?_⟩;rw[Mem.sg];refine RP.mP (l:=ps.map (iw T.B)) (Ow.at 2 rfl h6) hR.u (by rw[length_map];omega) p.name ⟨p,dE T.B p.conds⟩ λu3 h7=>⟨_,rfl,?_⟩;have xw:ps.length+1<=w+1:=by
     have ahi:=hR.JL;have:=acV;omega
    refine hk _ _ _ (.ok HW hg HM jY) (gB.shut (fr:=fr) (mn:=mn) (hR.put hpk vq hg xw) ?_ ?_)
    ·rw[C_ (nD (ck:=bE) (key:=jJ) cJ (L:=ps) (x:=p) hg)];show(((((p::ps).map λq=>(aE es q.conds).length).sum:Nat)):Int)<=x.M;rw[map_cons,sum_cons];unfold cS at jY;omega
    ·show Ow (an n x es ms ids::cg (T.ends p.conds (T.E p.conds+1)) tk ct fr mn::RP.cr x.pr ((aZ bE jJ p ps).map (iw T.B))::RT.At x.el es::L) u3;have e2:aZ RP.ck RP.key (p.name,⟨p,dE T.B p.conds⟩) (ps.map (iw T.B))=(aZ bE jJ p ps).map (iw T.B):=lL (f:=iw T.B) (x:=p);rw[e2]at h7;exact(Ow.ord [2,1,0] h7).tail λ_ h=>h.tail λ_ h=>h.tail λ_ h=>h.tail λ_ h=>h.drop
end
def j_(e:aj):Bool:=(e.id.k == 1)&&((e.attr.k != 1)&&(fI e.id&&(fI e.attr&&fI e.value)))
theorem OG(e:aj):Pure prog 90 [.agg e.pv] (pB (j_ e)):=by
 refine au.of (IW.c ?_);unfold j_;refine ab.mk (λh1=>ab.mk (λh2=>(FK e.id).call ⟨_,rfl,ab.mk (λh3=>(FK e.attr).call ⟨_,rfl,ab.mk (λh4=>(FK e.value).call ⟨_,rfl,?_⟩) (λh4=>?_)⟩) (λh3=>?_)⟩) (λh2=>?_)) (λh1=>?_)<;>simp_all [wk,bU]
theorem KI(e:aj):Pure prog 100 [.agg e.pv] (pB (j_ e)):=by
 refine au.of (rL.c ?_);unfold j_;refine(xI e.id).call ⟨_,rfl,ab.mk (λh1=>ab.mk (λh2=>(xJ e.attr).call ⟨_,rfl,ab.mk (λh3=>(xI e.value).call ⟨_,rfl,?_⟩) (λh3=>?_)⟩) (λh2=>?_)) (λh1=>?_)⟩<;>simp_all [wk,bU,lS]
 all_goals (first|(intro _ h;exact h3 h)|grind)
def fj(ms cu:dg):Prop:=∀k,(aL aw bO k cu).map (λy=>(y.2.c,y.2.aM))=(aL aw bO k ms).map (λy=>(y.2.c,y.2.aM))
theorem fj.refl(ms:dg):fj ms ms:=λ_=>rfl
theorem fj.trans{a b c:dg}(h:fj a b)(k:fj b c):fj a c:=λj=>(k j).trans (h j)
theorem fj.map{ms:dg}{f:Int×dX->Int×dX}(hf:∀y,(f y).1=y.1/\(f y).2.c=y.2.c/\(f y).2.aM=y.2.aM):fj ms (ms.map f):=λk=>by
 have e:aL aw bO k (ms.map f)=(aL aw (λy=>bO (f y)) k ms).map f:=nG;have e2:(λy=>bO (f y))=bO:=funext λy=>(hf y).1;rw[e,e2,Option.map_map];congr 1;funext y;show((f y).2.c,(f y).2.aM)=_;rw[(hf y).2.1,(hf y).2.2]
theorem fj.mem{a b:dg}(h:fj a b):iq a b:=λj d ⟨y,hy,hd⟩=>by
 have:=h j;rw[hy]at this;cases hg:aL aw bO j b with
 |none=>rw[hg]at this;cases this
 |some z=>
  rw[hg]at this;simp only[Option.map_some,Option.some.injEq,Prod.mk.injEq]at this;exact⟨z,hg,this.1.trans hd⟩
theorem fj.aM{a b:dg}(h:fj a b)(k:Int):fJ k b=fJ k a:=by
 have:=congrArg (λo:Option (ae×Int)=>(o.map (·.2)).getD 0) (h k);simp only[Option.map_map]at this;exact this
theorem fj.use{es fs:List aj}{a b:dg}{l:List Int}(h:fj a b)(hu:fi es a l)(hA:dr fs b):fi fs b l:=⟨hA,λk hk=>by rw[h.aM k];exact hu.use k hk⟩
section
variable {n:Nat} {x:NC} {es:List aj} {ms:dg} {ids:pq}
theorem XF{pf:List aj}(hu:b_ aw aG es)(hle:es.length<=1000000)(t:Int){L:List aR}{μ:Mem}(hO:Ow (an n x pf ms ids::RT.At x.el es::L) μ){K:Kq}
  (h1:∀e,aL aw aG t es=some e->K (.az [.agg e.pv,pB true]) μ) (h0:aL aw aG t es=none->K (.az [RT.zero,pB false]) μ):aa prog 92 [pP n 0,pI t] μ K:=by
 refine B_.c ?_;refine⟨_,aJ (an.xp (x:=x) (es:=pf) (ms:=ms) (ids:=ids) hO (by simp)) (by simp),?_⟩;refine RT.kj (l:=es) (Ow.swap hO) hu (by omega) ⟨⟨0,⟨#[]⟩,0⟩,⟨0,⟨#[]⟩,0⟩,⟨0,⟨#[]⟩,0⟩,false,false,t⟩ (λy hy=>⟨_,_,_,_,_,_,_,_,_,_,_,_,_,rfl,h1 y hy⟩) (λhy=>⟨_,_,_,_,_,_,_,_,_,_,_,_,_,rfl,h0 hy⟩)
end
instance decSym:DecidableEq Sym:=λa b=>if h:Ua a b=true then isTrue ((uI a b).1 h)else isFalse λe=>h ((uI a b).2 e)
theorem iV.mk2{es:List aj}{ids:pq}(up:b_ fF jF ids)(has:∀x∈ids,x.2.2=es.filter λe=>eU e.id x.1)(one:∀e∈es,∃x∈ids,x.1=e.id)(some_:∀x∈ids,x.2.2≠[]):iV es ids:=by
 refine⟨up,has,one,some_,?_⟩;have h:=jl (a:=ids.map jF) (b:=es.map (·.id)) ?_ ?_
 ·simpa using h
 ·have h1:(ids.map jF).Pairwise λa b=>fF a b<0:=by rw[List.pairwise_map];exact up
  refine h1.imp λ{a b} yG e=>?_;rw[e]at yG;exact absurd yG (by rw[bC.self b];omega)
 ·intro s hs;obtain⟨y,hy,rfl⟩:=mem_map.1 hs;have h1:=some_ y hy;cases hl:y.2.2 with
  |nil=>exact absurd hl h1
  |cons e l=>
   have:e∈es.filter λe=>eU e.id y.1:=by rw[<- has y hy,hl];simp
   obtain⟨h2,h3⟩:=mem_filter.1 this;exact mem_map.2 ⟨e,h2,cz.1 h3⟩
theorem Kz{es:List aj}(hu:b_ aw aG es){e:aj}(hn:aL aw aG e.tag es=none)(p:aj->Bool):(aZ aw aG e es).filter p=if p e then aZ aw aG e (es.filter p)else es.filter p:=by
 have hnn:=(bz ar).1 hn;split
 ·rename_i hp;refine b_.ext ar ((hu.ins ar e).filter _) (b_.ins ar (hu.filter _) e) λy=>?_;rw[bh ar,mem_filter,mem_filter,bh ar];constructor
  ·rintro⟨rfl|⟨h1,h3⟩,h2⟩
   ·exact .inl rfl
   ·exact .inr ⟨⟨h1,h2⟩,h3⟩
  ·rintro(rfl|⟨⟨h1,h2⟩,h3⟩)
   ·exact⟨.inl rfl,hp⟩
   ·exact⟨.inr ⟨h1,h3⟩,h2⟩
 ·rename_i hp;refine b_.ext ar ((hu.ins ar e).filter _) (hu.filter _) λy=>?_;rw[mem_filter,mem_filter,bh ar];constructor
  ·rintro⟨rfl|⟨h1,h3⟩,h2⟩
   ·exact absurd h2 hp
   ·exact⟨h1,h2⟩
  ·rintro⟨h1,h2⟩;exact⟨.inr ⟨h1,hnn y h1⟩,h2⟩
theorem KA{es:List aj}(t:Int)(p:aj->Bool):(bY aw aG t es).filter p=bY aw aG t (es.filter p):=by
 unfold bY;rw[List.filter_filter,List.filter_filter];exact List.filter_congr λy _=>Bool.and_comm _ _
def mr(e:aj)(y:Sym×Nat×List aj):Sym×Nat×List aj:=if y.1=e.id then(y.1,y.2.1,aZ aw aG e y.2.2)else y
def nq(e:aj)(y:Sym×Nat×List aj):Sym×Nat×List aj:=if y.1=e.id then(y.1,y.2.1,bY aw aG e.tag y.2.2)else y
theorem xR(e:aj)(y:Sym×Nat×List aj):(mr e y).1=y.1/\(mr e y).2.1=y.2.1:=by unfold mr;split<;>exact⟨rfl,rfl⟩
theorem Au(e:aj)(y:Sym×Nat×List aj):(nq e y).1=y.1/\(nq e y).2.1=y.2.1:=by unfold nq;split<;>exact⟨rfl,rfl⟩
theorem Wh(e:aj)(ids:pq):(ids.map (mr e)).map oS=ids.map oS:=by
 rw[List.map_map];exact map_congr_left λy _=>by
  show((mr e y).1,some (⟨(mr e y).2.1,0,none⟩:Addr))=_;rw[(xR e y).1,(xR e y).2];rfl
theorem Um(e:aj)(ids:pq):(ids.map (nq e)).map oS=ids.map oS:=by
 rw[List.map_map];exact map_congr_left λy _=>by
  show((nq e y).1,some (⟨(nq e y).2.1,0,none⟩:Addr))=_;rw[(Au e y).1,(Au e y).2];rfl
theorem Hn{ids:pq}(hu:b_ fF jF ids){z:Sym×Nat×List aj}{A B:pq}(e:ids=A++z::B){f:Sym×Nat×List aj->Sym×Nat×List aj}(hf:∀y,y.1≠z.1->f y=y):ids.map f=A++f z::B:=by
 have hz:z∈ids:=by rw[e];simp
 have hA:∀y∈A,f y=y:=λy hy=>hf y λh=>by
  have:y=z:=hu.inj bC (by rw[e];simp[hy]) hz h;subst this;rw[e]at hu;have:=(pairwise_append.1 hu).2.2 y hy y (by simp);exact absurd this (by rw[bC.self];omega)
 have hB:∀y∈B,f y=y:=λy hy=>hf y λh=>by
  have:y=z:=hu.inj bC (by rw[e];simp[hy]) hz h;subst this;rw[e]at hu;have:=(List.pairwise_cons.1 (pairwise_append.1 hu).2.1).1 y hy;exact absurd this (by rw[bC.self];omega)
 rw[e,map_append,map_cons]
 have m1:A.map f=A:=by conv=>rhs;rw[<- map_id A]
                       exact map_congr_left hA
 have m2:B.map f=B:=by conv=>rhs;rw[<- map_id B]
                       exact map_congr_left hB
 rw[m1,m2]
section
variable {n:Nat} {x:NC} {es:List aj} {ms:dg} {ids:pq}
theorem an.WN{L:List aR}{μ:Mem}(h:Ow (an n x es ms ids::L) μ):Ow (RI.cr x.id (ids.map oS)::Pt n 137 x.pv::bB x.al es ms::(ids.map dQ++L)) μ:=by
 have h1:Ow (Pt n 137 x.pv::bB x.al es ms::gC x.id ids::L) μ:=h.nest (L1:=[Pt n 137 x.pv,bB x.al es ms,gC x.id ids]);have h2:Ow (gC x.id ids::Pt n 137 x.pv::bB x.al es ms::L) μ:=Ow.ord [2] h1;have h3:Ow (RI.cr x.id (ids.map oS)::(ids.map dQ++(Pt n 137 x.pv::bB x.al es ms::L))) μ:=h2.nest (L1:=RI.cr x.id (ids.map oS)::ids.map dQ);exact h3.tail λν hν=>uZ (ids.map dQ) [Pt n 137 x.pv,bB x.al es ms] L hν
theorem an.J_{L:List aR}{μ:Mem}(h:Ow (RI.cr x.id (ids.map oS)::Pt n 137 x.pv::bB x.al es ms::(ids.map dQ++L)) μ):Ow (an n x es ms ids::L) μ:=by
 have h3:Ow (RI.cr x.id (ids.map oS)::(ids.map dQ++(Pt n 137 x.pv::bB x.al es ms::L))) μ:=h.tail λν hν=>uZ [Pt n 137 x.pv,bB x.al es ms] (ids.map dQ) L hν;have h2:Ow (gC x.id ids::Pt n 137 x.pv::bB x.al es ms::L) μ:=Ow.pack (L1:=RI.cr x.id (ids.map oS)::ids.map dQ) h3;exact Ow.pack (L1:=[Pt n 137 x.pv,bB x.al es ms,gC x.id ids]) (Ow.ord [1,1,0] h2)
structure ais(es:List aj)(ids:pq)(z:Sym×Nat×List aj):Prop where
 up:b_ fF jF ids
 has:∀y∈ids,y.2.2=es.filter λe=>eU e.id y.1
 one:∀e∈es,∃y∈ids,y.1=e.id
 at_:z∈ids
 some_:∀y∈ids,y.1≠z.1->y.2.2≠[]
theorem XA(hA:dr es ms)(hI:iV es ids){e:aj}(hn:aL aw aG e.tag es=none)(hle:es.length+1<1000000){L:List aR}{μ:Mem}(hO:Ow (an n x es ms ids::RT.At x.el es::L) μ){K:Kq}
  (hk:∀cu iv f μ',dr (aZ aw aG e es) cu->iV (aZ aw aG e es) iv->fj ms cu->Ow (an n x (aZ aw aG e es) cu iv::RT.At x.el (aZ aw aG e es)::L) μ'->K (.list 1 f ((et e ms).map f_)) μ'):
  aa prog 88 [pP n 0,.agg e.pv] μ K:=by
 refine BZ.c ?_;refine⟨_,aJ (an.xp (x:=x) (es:=es) (ms:=ms) (ids:=ids) hO (by simp)) (by simp),?_⟩;refine RT.fL (l:=es) (Ow.swap hO) hA.wC (by omega) e λu h1=>⟨_,rfl,?_⟩;have Cz:dq RT.ck RT.key e es=aZ aw aG e es:=by
  rw[dq,show aL RT.ck RT.key (RT.key e) es=none from hn];rfl
 rw[Cz]at h1;refine⟨_,aJ (an.xp (x:=x) (es:=es) (ms:=ms) (ids:=ids) h1 (by simp)) (by simp),?_⟩;have h2:=an.WN (Ow.swap h1);have hil:=hI.le;have fin:∀(iD:pq) (z:Sym×Nat×List aj) (u2:Mem),ais es iD z->z.1=e.id->Ow (RI.cr x.id (iD.map oS)::Pt n 137 x.pv::bB x.al es ms::(iD.map dQ++(RT.At x.el (aZ aw aG e es)::L))) u2->
   aa prog 93 [pP z.2.1 0,.agg e.pv] u2 λv_4 Lu=>∃(x38:Bool),v_4=(pB x38)/\∃(Wu:Option Addr),ay Lu n (0+3) 1=some [(.raw (.pointer Wu))]/\
     aa prog 147 [(.raw (.pointer Wu)),.agg e.pv] Lu λv_5 Ww=>
     ∃(Wt:Fl) (abn:Lq),∃(afz:Int),v_5=(.az [(.list 1 Wt abn),(pI afz)])/\K (.list 1 Wt abn) Ww:=λiD z u2 hP hz h3=>by
  obtain⟨A,B,eA⟩:=append_of_mem hP.at_;have WQ:b_ aw aG z.2.2:=by rw[hP.has z hP.at_];exact hA.wC.filter _
  have DH:z.2.2.length<=es.length:=by rw[hP.has z hP.at_];exact length_filter_le _ _
  have hzn:aL aw aG e.tag z.2.2=none:=(bz ar).2 λy hy=>(bz ar).1 hn y (by rw[hP.has z hP.at_]at hy;exact(mem_filter.1 hy).1);have eS:iD.map dQ=A.map dQ++dQ z::B.map dQ:=by rw[eA];simp
  rw[eS]at h3;have h4:=Ow.pick (P:=[RI.cr x.id (iD.map oS),Pt n 137 x.pv,bB x.al es ms]) h3;refine RT.fL (l:=z.2.2) h4 WQ (by omega) e λu5 h5=>⟨_,rfl,?_⟩;have acU:dq RT.ck RT.key e z.2.2=aZ aw aG e z.2.2:=by
   rw[dq,show aL RT.ck RT.key (RT.key e) z.2.2=none from hzn];rfl
  rw[acU]at h5;have Rr:iD.map (mr e)=A++mr e z::B:=Hn hP.up eA λy hy=>by unfold mr;rw[if_neg (by rw[<- hz];exact hy)]
  have haz:dQ (mr e z)=RT.At z.2.1 (aZ aw aG e z.2.2):=by unfold dQ mr;rw[if_pos hz]
  have h6:Ow (RI.cr x.id ((iD.map (mr e)).map oS)::Pt n 137 x.pv::bB x.al es ms::((iD.map (mr e)).map dQ++(RT.At x.el (aZ aw aG e es)::L))) u5:=by
   rw[Wh,Rr,map_append,map_cons,haz];exact Ow.sK (P:=[RI.cr x.id (iD.map oS),Pt n 137 x.pv,bB x.al es ms]) h5
  have h7:=an.J_ h6;have yH:iV (aZ aw aG e es) (iD.map (mr e)):=by
   refine iV.mk2 (b_.map (f:=mr e) (by rw[show(λy=>jF (mr e y))=jF from funext λy=>(xR e y).1];exact hP.up)) (λy hy=>?_) (λe' Mq=>?_) (λy hy=>?_)
   ·obtain⟨y,Ka,rfl⟩:=mem_map.1 hy;rw[(xR e y).1,Kz hA.wC hn,<- hP.has y Ka];unfold mr;by_cases h:y.1=e.id
    ·rw[if_pos h,if_pos (by rw[h];exact zZ _)]
    ·rw[if_neg h,if_neg λh2=>h (cz.1 h2).symm]
   ·rcases(bh ar).1 Mq with rfl|⟨h,_⟩
    ·exact⟨mr e' z,mem_map_of_mem hP.at_,(xR e' z).1.trans hz⟩
    ·obtain⟨y,hy,hye⟩:=hP.one e' h;exact⟨mr e y,mem_map_of_mem hy,(xR e y).1.trans hye⟩
   ·obtain⟨y,Ka,rfl⟩:=mem_map.1 hy;unfold mr;by_cases h:y.1=e.id
    ·rw[if_pos h];intro h0;have:e∈aZ aw aG e y.2.2:=(bh ar).2 (.inl rfl);rw[show aZ aw aG e y.2.2=[]from h0]at this;cases this
    ·rw[if_neg h];exact hP.some_ y Ka (by rw[hz];exact h)
  refine⟨_,aJ (an.xp (x:=x) (es:=es) (ms:=ms) (ids:=iD.map (mr e)) h7 (by simp)) (by simp),?_⟩;refine aed (an.alpha h7) hA e (λhs=>by rw[hn]at hs;cases hs) λ_ u6 f h8=>⟨_,_,_,rfl,?_⟩;refine hk (ms.map (xn e)) (iD.map (mr e)) f u6 (hA.xn hn hle) yH (fj.map λy=>⟨rfl,rfl,rfl⟩) ?_;exact an.back h8
 refine RI.gO h2 hI.u (by simp;omega) e.id (λy u2 hy h3=>?_) (λu2 hy h3=>?_)
 ·rw[Kw]at hy;obtain⟨z,hz,rfl⟩:=Option.map_eq_some_iff.1 hy;obtain⟨Pe,Fb⟩:=(a_ bC hI.up).1 hz;refine⟨_,_,rfl,λs u=>s=some ⟨z.2.1,0,none⟩/\u=u2,ab.f rfl ⟨rfl,rfl⟩,?_⟩;rintro s u' ⟨rfl,rfl⟩;exact fin ids z u' ⟨hI.up,hI.has,hI.one,Pe,λy hy _=>hI.some_ y hy⟩ Fb h3
 ·rw[Kw]at hy;have hz:aL fF jF e.id ids=none:=map_none hy;have hzn:=(bz bC).1 hz;refine⟨_,_,rfl,λs u=>∃b,s=some ⟨b,0,none⟩/\Ow (RI.cr x.id ((aZ fF jF (e.id,b,[]) ids).map oS)::Pt n 137 x.pv::bB x.al es ms::((aZ fF jF (e.id,b,[]) ids).map dQ++(RT.At x.el (aZ aw aG e es)::L))) u,ab.t rfl ?_,?_⟩
  ·refine RT.gj h3 .nil [] (by simp) λu3 b h4=>⟨_,rfl,?_⟩;dsimp only[nP,nn,aN];have h5:Ow (RI.cr x.id (ids.map oS)::RT.At b []::Pt n 137 x.pv::bB x.al es ms::(ids.map dQ++(RT.At x.el (aZ aw aG e es)::L))) u3:=h4.swap;refine⟨_,h5.rd 2 rfl (by simp),?_⟩;refine RI.mP h5 hI.u (by simp;omega) e.id (some ⟨b,0,none⟩) λu4 h6=>⟨_,rfl,b,rfl,?_⟩;have e2:aZ RI.ck RI.key (e.id,some ⟨b,0,none⟩) (ids.map oS)=(aZ fF jF (e.id,b,[]) ids).map oS:=lL (f:=oS) (x:=(e.id,b,[]));rw[e2]at h6;have so:((aZ fF jF (e.id,b,[]) ids).map dQ).Perm (RT.At b []::ids.map dQ):=(nD (ck:=fF) (key:=jF) bC (x:=(e.id,b,[])) hz).map dQ;refine h6.tail λν hν=>?_;have h7:Ow (Pt n 137 x.pv::bB x.al es ms::((RT.At b []::ids.map dQ)++(RT.At x.el (aZ aw aG e es)::L))) ν:=Ow.ord [1,1,0] hν;exact h7.tail λ_ h=>h.tail λ_ h=>h.perm (so.symm.append_right _)
  ·rintro s u' ⟨b,rfl,h4⟩;refine fin _ (e.id,b,[]) u' ⟨hI.up.ins bC _,λy hy=>?_,λe' Mq=>?_,(bh bC).2 (.inl rfl),λy hy aQ=>?_⟩ rfl h4
   ·rcases(bh bC).1 hy with rfl|⟨h,_⟩
    ·symm;rw[List.filter_eq_nil_iff];intro e' Mq hs;obtain⟨y,hy,hk⟩:=hI.one e' Mq;exact hzn y hy (hk.trans (cz.1 hs))
    ·exact hI.has y h
   ·obtain⟨y,hy,hk⟩:=hI.one e' Mq;exact⟨y,(bh bC).2 (.inr ⟨hy,hzn y hy⟩),hk⟩
   ·rcases(bh bC).1 hy with rfl|⟨h,_⟩
    ·exact absurd rfl aQ
    ·exact hI.some_ y h
theorem SC(hA:dr es ms)(hI:iV es ids){e:aj}(he:e∈es){L:List aR}{μ:Mem}(hO:Ow (an n x es ms ids::RT.At x.el es::L) μ){K:Kq}
  (hk:∀cu iv f μ',dr (bY aw aG e.tag es) cu->iV (bY aw aG e.tag es) iv->fj ms cu->Ow (an n x (bY aw aG e.tag es) cu iv::RT.At x.el (bY aw aG e.tag es)::L) μ'->K (.list 1 f ((et e ms).map f_)) μ'):
  aa prog 96 [pP n 0,.agg e.pv] μ K:=by
 have hle:=hA.le;have hil:=hI.le;have Rx:aL aw aG e.tag es=some e:=(a_ ar hA.wC).2 ⟨he,rfl⟩;refine zm.c ?_;refine⟨_,aJ (an.xp (x:=x) (es:=es) (ms:=ms) (ids:=ids) hO (by simp)) (by simp),?_⟩;refine RT.gA (l:=es) (Ow.swap hO) hA.wC (by omega) e λu h1=>⟨_,rfl,?_⟩;have ahh:bY RT.ck RT.key (RT.key e) es=bY aw aG e.tag es:=rfl;rw[ahh]at h1;refine⟨_,aJ (an.xp (x:=x) (es:=es) (ms:=ms) (ids:=ids) h1 (by simp)) (by simp),?_⟩;have h2:=an.WN (Ow.swap h1);refine RI.gO h2 hI.u (by simp;omega) e.id (λy u2 hy h3=>?_) (λu2 hy h3=>?_)
 ·rw[Kw]at hy;obtain⟨z,hz,rfl⟩:=Option.map_eq_some_iff.1 hy;obtain⟨Pe,Fb⟩:=(a_ bC hI.up).1 hz;have Fb:z.1=e.id:=Fb;obtain⟨A,B,eA⟩:=append_of_mem Pe;have WQ:b_ aw aG z.2.2:=by rw[hI.has z Pe];exact hA.wC.filter _
  have DH:z.2.2.length<=es.length:=by rw[hI.has z Pe];exact length_filter_le _ _
  have eS:ids.map dQ=A.map dQ++dQ z::B.map dQ:=by conv=>lhs;rw[eA]
                                                  simp
  rw[eS]at h3;have h4:=Ow.pick (P:=[RI.cr x.id (ids.map oS),Pt n 137 x.pv,bB x.al es ms]) h3;have Rr:ids.map (nq e)=A++nq e z::B:=Hn hI.up eA λy hy=>by unfold nq;rw[if_neg (by rw[<- Fb];exact hy)]
  have haz:dQ (nq e z)=RT.At z.2.1 (bY aw aG e.tag z.2.2):=by unfold dQ nq;rw[if_pos Fb]
  refine⟨_,_,rfl,λ_ u=>∃iv,iV (bY aw aG e.tag es) iv/\Ow (an n x es ms iv::RT.At x.el (bY aw aG e.tag es)::L) u,ab.t rfl ?_,?_⟩
  ·refine RT.gA (l:=z.2.2) h4 WQ (by omega) e λu5 h5=>⟨_,rfl,RT.Iu h5 ⟨_,rfl,?_⟩⟩;have adv:bY RT.ck RT.key (RT.key e) z.2.2=bY aw aG e.tag z.2.2:=rfl;rw[adv]at h5 |-;have adD:∀y∈ids,(nq e y).2.2=(bY aw aG e.tag es).filter λe'=>eU e'.id y.1:=λy hy=>by
    rw[KA,<- hI.has y hy];unfold nq;by_cases h:y.1=e.id
    ·rw[if_pos h]
    ·rw[if_neg h];symm;refine filter_eq_self.2 λe' Mq=>?_;rw[hI.has y hy]at Mq;obtain⟨h1,h2⟩:=mem_filter.1 Mq;simp only[FF,Bool.not_eq_true',decide_eq_false_iff_not,ar.zero];intro ht;have:e'=e:=hA.wC.inj ar h1 he ht;rw[this]at h2;exact h (cz.1 h2).symm
   refine ab.mk (λh0=>?_) (λh0=>?_)
   ·have tz:bY aw aG e.tag z.2.2=[]:=by
     refine List.eq_nil_of_length_eq_zero ?_;have:((((bY aw aG e.tag z.2.2).length:Nat):Int) == 0)=true:=h0;simpa using this
    refine⟨_,h5.rd 2 rfl (by simp),?_⟩;have h6:Ow (RI.cr x.id (ids.map oS)::Pt n 137 x.pv::bB x.al es ms::((A.map dQ++B.map dQ)++(RT.At x.el (bY aw aG e.tag es)::L))) u5:=h5.drop;have ag7:bY fF jF e.id ids=A++B:=by
     obtain⟨A',B',e1,e2,_⟩:=hI.up.at_ bC Pe;have e3:bY fF jF e.id ids=A'++B':=by rw[<- Fb];exact e2
     have yB:∀y,y∈A++B↔y∈A'++B':=λy=>by
      rw[<- e3,eY bC];have hu:=hI.up;rw[eA]at hu;constructor
      ·intro hyA;refine⟨by rw[eA];rcases mem_append.1 hyA with h|h<;>simp[h],λh=>?_⟩;have hyz:y=z:=hI.up.inj bC (by rw[eA];rcases mem_append.1 hyA with h|h<;>simp[h]) Pe (by rw[h];exact Fb.symm);subst hyz;rcases mem_append.1 hyA with h|h
       ·have:=(pairwise_append.1 hu).2.2 y h y (by simp);exact absurd this (by rw[bC.self];omega)
       ·have:=(List.pairwise_cons.1 (pairwise_append.1 hu).2.1).1 y h;exact absurd this (by rw[bC.self];omega)
      ·rintro⟨h1,h2⟩;rw[eA,mem_append,mem_cons]at h1;rcases h1 with h|h|h
       ·simp[h]
       ·rw[h]at h2;exact absurd Fb h2
       ·simp[h]
     have huA:b_ fF jF (A++B):=List.Pairwise.sublist (by rw[eA];exact(List.sublist_cons_self z B).append_left A) hI.up;have agv:b_ fF jF (A'++B'):=by rw[<- e3];exact hI.up.del _
     rw[e3];exact(b_.ext bC huA agv yB).symm
    refine RI.oE h6 hI.u (by simp;omega) e.id (λy2 u6 Fc h7=>⟨_,_,rfl,bY fF jF e.id ids,?_,?_⟩) (λu6 Fc h7=>?_)
    ·refine iV.mk2 (hI.up.del _) (λy hy=>?_) (λe' Mq=>?_) (λy hy=>?_)
     ·obtain⟨Mf,Fc⟩:=(eY bC).1 hy;have:=adD y Mf;unfold nq at this;rw[if_neg (show ¬y.1=e.id from Fc)]at this;exact this
     ·obtain⟨h1,h2⟩:=(eY ar).1 Mq;obtain⟨y,hy,hye⟩:=hI.one e' h1;refine⟨y,(eY bC).2 ⟨hy,λh=>?_⟩,hye⟩;have hyz:y=z:=hI.up.inj bC hy Pe (by rw[h];exact Fb.symm);have h3:e'∈bY aw aG e.tag z.2.2:=by
       refine(eY ar).2 ⟨?_,h2⟩;rw[hI.has z Pe,<- hyz];exact mem_filter.2 ⟨h1,by rw[hye];exact zZ _⟩
      rw[tz]at h3;cases h3
     ·exact hI.some_ y ((eY bC).1 hy).1
    ·have e4:bY RI.ck RI.key (RI.key (e.id,RI.z)) (ids.map oS)=(bY fF jF e.id ids).map oS:=BB;rw[e4]at h7;refine an.J_ ?_;rw[ag7]at h7 |-;rw[map_append (f:=dQ)];exact h7
    ·exfalso;rw[Kw,hz]at Fc;cases Fc
   ·have aQ:bY aw aG e.tag z.2.2≠[]:=by
     intro h;have:((((bY aw aG e.tag z.2.2).length:Nat):Int) == 0)=false:=h0;rw[h]at this;cases this
    refine⟨ids.map (nq e),?_,?_⟩
    ·refine iV.mk2 (b_.map (f:=nq e) (by rw[show(λy=>jF (nq e y))=jF from funext λy=>(Au e y).1];exact hI.up)) (λy hy=>?_) (λe' Mq=>?_) (λy hy=>?_)
     ·obtain⟨y,Ka,rfl⟩:=mem_map.1 hy;rw[(Au e y).1];exact adD y Ka
     ·obtain⟨y,hy,hye⟩:=hI.one e' ((eY ar).1 Mq).1;exact⟨nq e y,mem_map_of_mem hy,(Au e y).1.trans hye⟩
     ·obtain⟨y,Ka,rfl⟩:=mem_map.1 hy;by_cases h:y.1=e.id
      ·have hyz:y=z:=hI.up.inj bC Ka Pe (by show y.1=z.1;rw[h,Fb]);subst hyz;unfold nq;rw[if_pos h];exact aQ
      ·unfold nq;rw[if_neg h];exact hI.some_ y Ka
    ·refine an.J_ ?_;rw[Um,Rr,map_append,map_cons,haz];exact Ow.sK (P:=[RI.cr x.id (ids.map oS),Pt n 137 x.pv,bB x.al es ms]) h5
  ·rintro _ u5 ⟨iv,dG,h5⟩;refine⟨_,aJ (an.xp (x:=x) (es:=es) (ms:=ms) (ids:=iv) h5 (by simp)) (by simp),?_⟩;refine aap (an.alpha h5) hA e.tag (λhs=>by rw[Rx]at hs;cases hs) λe2 he2 u6 f h6=>⟨_,_,_,rfl,?_⟩;rw[Rx]at he2;cases he2;refine hk (ms.map (oX e.tag)) iv f u6 (hA.oX e.tag) dG (fj.map λy=>⟨rfl,rfl,rfl⟩) ?_;exact an.back h6
 ·exfalso;rw[Kw]at hy;obtain⟨y,Mf,Fc⟩:=hI.one e he;exact(bz bC).1 (map_none hy) y Mf Fc
end
end Go.Proofs.YtbodiiomcfgokaaGreat
