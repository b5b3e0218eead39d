import Derived.Test.YtbodiiomcfgokaaGreatB13
import Derived.Test.YtbodiiomcfgokaaGreatRows
open Int (toNat toNat_natCast)
open Go.IntKind (wrap)
open List (Pairwise.cons Pairwise.nil Perm.refl all_cons all_nil any_eq_true append_assoc cons_append drop drop_length drop_zero getElem?_eq_getElem getElem_map getElem_mem length_append length_cons length_map length_set length_take map_append map_cons map_drop map_map map_take mem_append mem_cons mem_cons_of_mem mem_cons_self mem_filter mem_map mem_of_mem_take mem_range mem_singleton nil_append not_mem_nil pairwise_map range sum_append sum_cons take take_add_one take_length)
open Nat (le_refl le_trans)
set_option linter.all false
namespace Go.Proofs.YtbodiiomcfgokaaGreat
open Go.Proofs.Tryz Go.aP Go.RowKit K6
theorem OA{c:ae}{d:Int}(h:bw c d=0):c.kind=1\/c.kind=2\/c.kind=3:=by
 by_cases h3:c.kind=3
 ·exact .inr (.inr h3)
 ·by_cases h1:c.kind=1
  ·exact .inl h1
  ·by_cases h2:c.kind=2
   ·exact .inr (.inl h2)
   ·unfold bw at h;have e3:(c.kind == 3)=false:=by simpa using h3
    have e1:(c.kind == 1)=false:=by simpa using h1
    have e2:(c.kind == 2)=false:=by simpa using h2
    rw[e3,e1,e2]at h;cases h
mutual
theorem QR:∀(c:ae) (a d:Nat),(∀x∈gD c a d,bw x.2.2 x.2.1=0)->QS c
 | .mk k g i at_ v ac cs,a,d,h=>
   ⟨OA (h (a,d,.mk k g i at_ v ac cs) (by simp[gD])),Be cs (a+1) (d+1) λx hx=>h x (by simp[gD,hx])⟩
theorem Be:∀(l:List ae) (a d:Nat),(∀x∈cX l a d,bw x.2.2 x.2.1=0)->Cw l
 |[],_,_,_=>trivial
 |c::cs,a,d,h=>⟨QR c a d λx hx=>h x (by simp[cX,hx]),Be cs (a+aO c) d λx hx=>h x (by simp[cX,hx])⟩
end
theorem qL.knd{p:Prod}(h:qL p):Cw p.conds:=Be _ 0 0 (Am (D_ h.chk).1)
theorem GL{es:List aj}{B:Int}(hB:1<=B){l:List ae}(h:¬dj B es l):(((aE es l).length:Nat):Int)<=B:=by
 rcases List.eq_nil_or_concat l with rfl|⟨m,c,e⟩
 ·simp[aE];exact hB
 ·have e:l=m++[c]:=by rw[e];simp
  subst e;rw[dh,<- jt];refine Int.not_lt.1 λbI=>h ⟨m.length,by simp,0,?_⟩;rw[List.getElem_append_right (le_refl _),List.take_left];simpa using bI
theorem Tc{q:Bool}{size bytes:Nat}{rows new:Lq}{μ:Mem}{K:Fl->Mem->Prop}(h:aT false size bytes .nil rows new μ K):aT q size bytes .nil rows new μ K:=by
 cases q<;>exact h
theorem Ow.Td{q:Bool}{L:List aR}{μ:Mem}{size bytes:Nat}{new:Lq}{K:Fl->Mem->Prop}(hO:Ow L μ)(hb:new.length*bytes<=140737488355328)(pJ:new.length<4611686018427387904)
  (hk:∀jZ μ',Ow (e_ jZ new.length size::L) μ'->K jZ μ'):aT q size bytes .nil [] new μ K:=
 Tc ((hO.nil (n:=0) (.inl rfl)).app rfl (by simpa using hb) (by simpa using pJ) λjZ μ' h=>hk jZ μ' (by simpa using h))
theorem UO{T κ:Type}{ck:κ->κ->Int}{key:T->κ}{L:List T}{x:T}{i:Nat}(hi:i<=L.length)(za:∀(j:Nat) (h:j<L.length),j<i->ck (key L[j]) (key x)<0)(HT:∀(j:Nat) (h:j<L.length),i<=j->0<ck (key L[j]) (key x)):L.take i++x::L.drop i=aZ ck key x L:=by
 unfold aZ
 rw[mM (k:=i) hi (λj h hj=>by simp[AS,za j h hj]) (λj h hj=>by have:=HT j h hj;simp[AS];omega),
  qB (k:=i) hi (λj h hj=>by have:=za j h hj;simp[Ft];omega) (λj h hj=>by simp[Ft,HT j h hj])]
structure po where
 B:Int
 M:Int
 ps:List Prod
 es:List aj
 tk:List (List cx)
 mo:List Nat
abbrev RFl:=Fl×Fl×Fl×Fl
@[reducible] def yn(ts:List cx):List PV:=[.list 3 .sh (ts.map cx.pv)]
@[reducible] def po.pv(x:po)(f:RFl):List PV:=[pI x.B,pI x.M,.list 3 f.1 (x.ps.map Prod.pv),.list 12 f.2.1 (x.es.map aj.pv),.list 1 f.2.2.1 (x.tk.map yn),.list 1 f.2.2.2 (x.mo.map qg)]
def bS(r:Nat)(x:po):aR:=λμ=>∃f,Pt r 47 (x.pv f) μ
theorem bS.open_{r:Nat}{x:po}{L:List aR}{μ:Mem}(h:Ow (bS r x::L) μ):∃f,Ow (Pt r 47 (x.pv f)::L) μ:=Ow.ex h
theorem bS.shut{r:Nat}{x:po}{f:RFl}{L:List aR}{μ:Mem}(h:Ow (Pt r 47 (x.pv f)::L) μ):Ow (bS r x::L) μ:=h.imp λ_ hν=>⟨f,hν⟩
def kH(es:List aj)(p:Prod):List cx:=Aj (cq es p.conds [Cr])
def qh(es:List aj)(p:Prod):Nat:=jM (zL es p.conds)
abbrev Cv(es:List aj):Prop:=es.Pairwise λa b=>a.tag≠b.tag
theorem wP{es:List aj}(h:Cv es)(l:List ae):UG (cq es l [Cr]):=by
 have:=lj h l;rw[<- mz,pairwise_map]at this;exact this
theorem GM{es:List aj}(h:Cv es)(p:Prod):(kH es p).map cx.tok=iY (aE es p.conds):=by
 unfold kH;rw[PT (wP h _),mz]
theorem zQ{es:List aj}(h:Cv es)(p:Prod):(kH es p).length=(aE es p.conds).length:=by
 have:=congrArg List.length (GM h p);rw[length_map,rb (lj h _)]at this;exact this
structure jW(x:po):Prop where
 b:1<=x.B/\x.B<=1024
 m:x.M<=1024
 Jo:b_ bE jJ x.ps
 Gt:∀p∈x.ps,qL p
 GC:x.ps.length<=100
 en:x.es.length<=100000
 ne:Cv x.es
 tk:x.tk=x.ps.map (kH x.es)
 mo:x.mo=x.ps.map (qh x.es)
 le:∀p∈x.ps,¬dj x.B x.es p.conds
 sum:((cS x.es x.ps:Nat):Int)<=x.M
theorem oY.new{b:Nat}{R:Int}{L:List aR}{μ:Mem}(h:Ow (Pt b 198 [pV none 0 0,pI R,pB false]::L) μ):Ow (oY b R false 0 (λ_=>0)::L) μ:=oY.shut (cA.nil _ _ h).swap
theorem Xt{es:List aj}{B:Int}(hB:0<=B/\B<=1000000)(Of:es.length<=1000000){l:List ae}(aI:ta l)(Rt:Cw l)(hs:ah l<=16){b:Nat}(fl fe:Fl){L:List aR}{μ:Mem}(hO:Ow (Pt b 198 [pV none 0 0,pI B,pB false]::L) μ){K:Kq}
  (hk:∀f o N cv out μ',(o=false->¬dj B es l/\out=cq es l [Cr]/\jM ((range N).map cv)=jM (zL es l))->(o=true->dj B es l)->N<=16->out.length<=1000001->(∀t∈out,t.tags.length<=900000)->Ow (oY b B o N cv::L) μ'->K (.list 3 f (out.map cx.pv)) μ'):
  aa prog 113 [.list 7 fl (l.map ae.pv),pI 0,.list 3 .nr [[.list 1 .sh [],.list 4 .sh [],pI 0]],.list 12 fe (es.map aj.pv),pP b 0] μ K:=by
 refine aii hB Of l fl .nr fe 0 0 b (λ_=>0) [Cr] aI Rt (by omega) (le_refl _) (λ_ _=>rfl) (by simp) (λt ht=>?_) (oY.new hO) λf o N cv out μ' hg hN hz hl ht RS=>hk f o N cv out μ' (λho=>?_) (λho=>?_) (by omega) hl ht RS
 ·simp only[mem_singleton]at ht;subst ht;simp[Cr];omega
 ·rcases hg with⟨_,h1,rfl,h3⟩|⟨h,_⟩
  ·refine⟨λzF=>?_,h3,?_⟩
   ·obtain⟨j,hj⟩:=(LQ hB.1 l).2 zF;have:=h1 j;have:((cL es l [[]] j:Nat):Int)<=B:=this;omega
   ·have e:(λj=>(λ_=>0) j+sh 0 (cL es l (la [Cr])) j)=cL es l [[]]:=by
     funext j;rw[Ez];exact Nat.zero_add _
    rw[e]at hz |-;rw[KG];exact JV hz λj hj=>FQ es l _ j hj
  ·rw[ho]at h;cases h
 ·rcases hg with⟨h,_⟩|⟨_,j,hj⟩
  ·rw[ho]at h;cases h
  ·exact(LQ hB.1 l).1 ⟨j,hj⟩
section
variable {r:Nat} {x:po}
theorem aah(s:ByteArray)(hn:x.ps.length<=1000000){L:List aR}{μ:Mem}(hO:Ow (bS r x::L) μ){K:Kq}(h0:(∀p∈x.ps,p.name≠s)->K (.az [pI 0,pB false]) μ)(h1:∀(i:Nat) (h:i<x.ps.length),x.ps[i].name=s->K (.az [pI (i:Nat),pB true]) μ):
  aa prog 86 [pP r 0,pS s] μ K:=by
 obtain⟨f,hO⟩:=bS.open_ hO;refine oL.c ?_;refine ak.each (n:=x.ps.length) (by omega) (λk u=>(∀p∈x.ps.take k,p.name≠s)/\u=μ) ⟨by simp,rfl⟩ ?_ ?_
 ·rintro k u next hk ⟨hn,rfl⟩ av
  refine⟨_,_,hO.rd 0 rfl (by simp),ab.t (by simpa using hk) ⟨_,_,hO.rd 0 rfl (by simp),by omega,_,aC hk,_,rfl,ab.mk (λh=>h1 k hk (bF.1 h)) (λh=>av _ ⟨λp hp=>?_,rfl⟩)⟩⟩;rcases(dO hk).1 hp with hp|rfl
  ·exact hn p hp
  ·exact pO.1 h
 ·rintro u next ⟨hn,rfl⟩
  rw[take_length]at hn;exact⟨_,_,hO.rd 0 rfl (by simp),ab.f (by simp) (h0 hn)⟩
theorem So(hB:0<=x.B/\x.B<=1000000)(Of:x.es.length<=100000)(aQ:Cv x.es){p:Prod}(hp:qL p)(fc fa:Fl){L:List aR}{μ:Mem}(hO:Ow (bS r x::L) μ){K:Kq}
  (hk:∀(out:List cx) (dZ:Nat) ok μ',(ok=true->¬dj x.B x.es p.conds/\out=kH x.es p/\dZ=qh x.es p)->(ok=false->dj x.B x.es p.conds)->out.length<=1000001->Ow (bS r x::L) μ'->K (.az [.list 3 .sh (out.map cx.pv),pI (dZ:Nat),pB ok]) μ'):
  aa prog 110 [pP r 0,.agg [pS p.name,.list 7 fc (p.conds.map ae.pv),.list 19 fa (p.bk.map cT.pv)]] μ K:=by
 obtain⟨f,hO⟩:=bS.open_ hO;obtain⟨g1,_,_,g4,_⟩:=hp.facts;refine oK.c ?_;refine⟨_,_,hO.rd 0 rfl (by simp),_,hO.rd 0 rfl (by simp),?_⟩;refine jX.c λb hb=>?_;refine Xt hB (by omega) g1 hp.knd g4 .sh _ (hO.new _ _ hb) λf1 o N cv out u1 h1 h2 hN hl ht sv=>⟨_,_,rfl,_,_,_,rfl,?_⟩;obtain⟨a,c,gg⟩:=oY.open_ sv;refine ak.dd (n:=N) (by omega) (λk y u=>y=((jM ((range k).map cv):Nat):Int)/\u=u1) ⟨rfl,rfl⟩ ?_ ?_
 ·rintro k _ u next bZ ⟨rfl,rfl⟩ av
  have Gx:k<(tN N cv).length:=by simpa using bZ
  obtain⟨b1,rfl,dS,_⟩:=cA.at_ 1 gg rfl (xG N cv) (j:=k) Gx;refine⟨_,_,_,gg.rd 0 rfl (by simp),ab.t (by simpa using bZ) ⟨_,_,_,gg.rd 0 rfl (by simp),by omega,by omega,((cv k:Nat):Int),?_,av _ _ ⟨?_,rfl⟩⟩⟩
  ·rw[toNat_natCast];have:=dS 0 1 (by omega);rw[getElem_map,List.getElem_range]at this;exact this
  ·rw[List.range_succ,map_append,ql];show(if((cv k:Nat):Int)>((jM ((range k).map cv):Nat):Int)then((cv k:Nat):Int)else((jM ((range k).map cv):Nat):Int))=((max (jM ((range k).map cv)) (jM [cv k]):Nat):Int);rw[Hz];split<;>omega
 ·rintro _ u next ⟨rfl,rfl⟩
  refine⟨_,_,_,gg.rd 0 rfl (by simp),ab.f (by simp) ⟨_,gg.rd 0 rfl (by simp),?_⟩⟩;refine(Sv f1 out (by omega) (λt h=>by have:=ht t h;omega)).q λq hq=>?_;obtain⟨af8,rfl,h3,h4⟩:=hq;refine⟨_,_,rfl,?_⟩;rw[Mem.sg];refine hk af8 _ _ u (λho=>?_) (λho=>h2 (by simpa using ho)) (by omega) (bS.shut (gg.drop.drop));obtain⟨e1,e2,e3⟩:=h1 (by simpa using ho);refine⟨e1,?_,e3⟩;have h5:=h4 (by rw[e2];exact wP aQ _);rw[h5,e2];rfl
end
theorem Ng{es:List aj}{ps:List Prod}{i:Nat}(hi:i<ps.length):cS es (ps.take (i+1))=cS es (ps.take i)+(aE es ps[i].conds).length:=by
 unfold cS;rw[eP hi,sum_append];simp
section
variable {r:Nat} {x:po}
theorem SR(hb:1<=x.B/\x.B<=1024)(hp:∀p∈x.ps,qL p)(hf:x.ps.length<=100)(Of:x.es.length<=100000)(aQ:Cv x.es){L:List aR}{μ:Mem}(hO:Ow (bS r x::L) μ){K:Kq}
  (h25:(∃p∈x.ps,dj x.B x.es p.conds)->∀μ',Ow (bS r x::L) μ'->K (pI 25) μ')
  (h26:(¬ ∃p∈x.ps,dj x.B x.es p.conds)->x.M<((cS x.es x.ps:Nat):Int)->∀μ',Ow (bS r x::L) μ'->K (pI 26) μ')
  (h0:(¬ ∃p∈x.ps,dj x.B x.es p.conds)->((cS x.es x.ps:Nat):Int)<=x.M->∀μ',Ow (bS r ⟨x.B,x.M,x.ps,x.es,x.ps.map (kH x.es),x.ps.map (qh x.es)⟩::L) μ'->K (pI 0) μ'):
  aa prog 102 [pP r 0] μ K:=by
 refine nN.c ?_
 refine⟨λm s u=>∃i,s.2.2.2.2=((i:Nat):Int)/\i<=x.ps.length/\m=x.ps.length-i/\∃(tk:List (List cx)) (mo:List Nat),s.1.2=tk.map yn/\s.2.1.2=mo.map qg/\tk.length=i/\mo.length=i/\s.2.2.1=(((tk.map List.length).sum:Nat):Int)/\(tk.map List.length).sum<=1000001*i/\(s.2.2.2.1=true->∃p∈x.ps,dj x.B x.es p.conds)/\
  (s.2.2.2.1=false->tk=(x.ps.take i).map (kH x.es)/\mo=(x.ps.take i).map (qh x.es)/\(tk.map List.length).sum=cS x.es (x.ps.take i)/\∀p∈x.ps.take i,¬dj x.B x.es p.conds)/\Ow (e_ s.1.1 i 1::e_ s.2.1.1 i 1::bS r x::L) u,
  ⟨_,0,rfl,by omega,rfl,[],[],rfl,rfl,rfl,rfl,rfl,by simp,(λh=>by cases h),λ_=>⟨rfl,rfl,rfl,by simp⟩,(hO.nil (.inl rfl)).nil (.inl rfl)⟩,?_⟩
 rintro m ⟨⟨f1,_⟩,⟨f2,_⟩,_,ov,_⟩ u ⟨i,rfl,hi,rfl,tk,mo,rfl,rfl,Bi,pG,rfl,mV,zF,cQ,hO⟩;dsimp only at zF cQ hO |-;obtain⟨f,sv⟩:=bS.open_ (Ow.ord [2] hO);refine⟨_,_,sv.rd 0 rfl (by simp),ab.mk (λh=>?_) (λh=>?_)⟩
 ·have h:i<x.ps.length:=by simpa using h
  have hm:=getElem_mem h;refine⟨_,_,sv.rd 0 rfl (by simp),by omega,_,aC h,_,_,_,_,_,rfl,?_⟩;refine So (r:=r) (x:=x) (by omega) Of aQ (hp _ hm) .sh .sh (Ow.ord [2] hO) λout dZ ok u1 w1 w2 w3 gg=>⟨_,_,_,_,rfl,?_⟩;refine⟨λs u'=>s=(ov|| !ok)/\u'=u1,ab.mk (λh=>by subst h;exact⟨rfl,rfl⟩) (λh=>by subst h;exact⟨rfl,rfl⟩),?_⟩;rintro _ _ ⟨rfl,rfl⟩;have wI:Ow (e_ f1 i 1::e_ f2 i 1::bS r x::L) _:=Ow.ord [1,1,0] gg;refine wI.app (by rw[length_map,Bi]) (by simp;omega) (by simp;omega) λf3 u2 pH=>?_;refine(Ow.swap pH).app (by rw[length_map,pG]) (by simp;omega) (by simp;omega) λf4 u3 xz=>?_;have e1:((tk++[out]).map List.length).sum=(tk.map List.length).sum+out.length:=by rw[map_append,sum_append];simp
  refine⟨x.ps.length-(i+1),by omega,i+1,by rw[aD (by omega) (by omega)];rfl,by omega,rfl,tk++[out],mo++[dZ],by rw[map_append];rfl,by rw[map_append];rfl,by simp[Bi],by simp[pG],?_,by rw[e1];omega,λho=>?_,λho=>?_,Ow.swap xz⟩
  ·rw[e1,length_map,aD (by omega) (by omega)];rfl
  ·rcases Bool.or_eq_true_iff.1 ho with h1|h1
   ·exact zF h1
   ·exact⟨_,hm,w2 (by simpa using h1)⟩
  ·obtain⟨h1,h2⟩:=Bool.or_eq_false_iff.1 ho;obtain⟨n1,n2,n3,n4⟩:=cQ h1;obtain⟨v1,rfl,rfl⟩:=w1 (by simpa using h2);refine⟨by rw[n1,eP h],by rw[n2,eP h],by rw[e1,n3,Ng h,zQ aQ],λp zE=>?_⟩;rcases(dO h).1 zE with zE|rfl
   ·exact n4 p zE
   ·exact v1
 ·have h:i=x.ps.length:=by simp at h;omega
  subst h;rw[take_length]at cQ;have gg:=Ow.ord [2] hO;refine ab.mk (λho=>h25 (zF ho) _ (gg.tail λ_ h=>h.drop.drop)) (λho=>⟨_,sv.rd 0 rfl (by simp),?_⟩);obtain⟨n1,n2,n3,n4⟩:=cQ ho;have hn:¬ ∃p∈x.ps,dj x.B x.es p.conds:=λ⟨p,zE,hv⟩=>n4 p zE hv;rw[n3];refine ab.mk (λhs=>h26 hn (by simpa using hs) _ (gg.tail λ_ h=>h.drop.drop)) (λhs=>?_);dsimp only[nP,nn,aN];refine sv.st 0 rfl (by simp) λu1 h1=>h1.st 0 rfl (by simp[dx]) λu2 h2=>h0 hn (by simpa using hs) _ ?_;subst n1 n2;exact(bS.shut (x:=⟨x.B,x.M,x.ps,x.es,x.ps.map (kH x.es),x.ps.map (qh x.es)⟩) (f:=(f.1,f.2.1,f1,f2)) h2).tail λ_ h=>h.drop.drop
theorem jW.add(h:jW x){p:Prod}(hp:qL p)(hn:aL bE jJ p.name x.ps=none)(hv:¬dj x.B x.es p.conds)(hs:((cS x.es x.ps+(aE x.es p.conds).length:Nat):Int)<=x.M)(hl:x.ps.length+1<=100):jW ⟨x.B,x.M,aZ bE jJ p x.ps,x.es,(aZ bE jJ p x.ps).map (kH x.es),(aZ bE jJ p x.ps).map (qh x.es)⟩:=by
 have so:=nD (ck:=bE) (key:=jJ) cJ (L:=x.ps) (x:=p) hn;have eJ:∀q∈aZ bE jJ p x.ps,q=p\/q∈x.ps:=λq hq=>by rw[so.mem_iff]at hq;simpa using hq
 refine⟨h.b,h.m,h.Jo.ins cJ p,λq hq=>?_,by show(aZ bE jJ p x.ps).length<=100;rw[so.length_eq];simpa using hl,h.en,h.ne,rfl,rfl,λq hq=>?_,?_⟩
 ·rcases eJ q hq with rfl|hq
  ·exact hp
  ·exact h.Gt q hq
 ·rcases eJ q hq with rfl|hq
  ·exact hv
  ·exact h.le q hq
 ·show((cS x.es (aZ bE jJ p x.ps):Nat):Int)<=x.M;rw[C_ so];unfold cS at hs |-;simp only[map_cons,sum_cons];omega
theorem aan(h:jW x)(hl:x.ps.length+1<=100)(fc fa:Fl)(p:Prod)(hlp:bX p.conds)(DJ:ah p.conds<=1000000)(Pp:p.bk.length<=1000000){L:List aR}{μ:Mem}(hO:Ow (bS r x::L) μ){K:Kq}
  (hk:∀e Gs x' μ',qW x.B x.M x.es x.ps p e Gs->jW x'->x'.B=x.B->x'.M=x.M->x'.es=x.es->x'.ps=Gs->Ow (bS r x'::L) μ'->K (pI e) μ'):
  aa prog 42 [pP r 0,.agg [pS p.name,.list 7 fc (p.conds.map ae.pv),.list 19 fa (p.bk.map cT.pv)]] μ K:=by
 have CC:=h.GC;have hen:=h.en;obtain⟨b1,b2⟩:=h.b;refine pC.c ?_;refine(VR .sh .sh p hlp DJ Pp).call ⟨_,_,rfl,ab.mk (λhc=>?_) (λhc=>?_)⟩
 ·exact hk _ _ x _ (.form (by simpa using hc)) h rfl rfl rfl rfl hO
 have hc:(bT p).2.1=0:=by simpa using hc
 have hp:qL p:=⟨hc,hlp⟩
 refine aah p.name (by omega) hO (λca=>⟨_,_,rfl,ab.f rfl ?_⟩) λi hi he=>⟨_,_,rfl,ab.t rfl (hk _ _ x _ (.there hc (by
  cases hg:aL bE jJ p.name x.ps with
  |none=>exact absurd he ((bz cJ).1 hg _ (getElem_mem hi))
  |some q=>rfl)) h rfl rfl rfl rfl hO)⟩
 have hg:aL bE jJ p.name x.ps=none:=(bz cJ).2 ca;refine So (by omega) (by omega) h.ne hp .sh .sh hO λout dZ ok u1 w1 w2 w3 sv=>⟨_,_,_,_,rfl,ab.mk (λho=>?_) (λho=>?_)⟩
 ·exact hk _ _ x _ (.dN hc hg (w2 (by simpa using ho))) h rfl rfl rfl rfl sv
 obtain⟨zF,rfl,rfl⟩:=w1 (by simpa using ho);have gf:=h.tk;have hmo:=h.mo;have Bi:x.tk.length=x.ps.length:=by rw[gf,length_map]
 have Kj:x.mo.length=x.ps.length:=by rw[hmo,length_map]
 have hlen:=λq=>zQ h.ne q;have alE:=GL b1 zF;have WT:∀k,((x.tk.take k).map List.length).sum=cS x.es (x.ps.take k):=λk=>by
  rw[gf,<- map_take,map_map];unfold cS;congr 1;exact List.map_congr_left λq _=>hlen q
 have jO:∀k,cS x.es (x.ps.take k)<=1024:=λk=>by
  have h1:=h.sum;have h2:cS x.es x.ps=cS x.es (x.ps.take k)+cS x.es (x.ps.drop k):=by
   unfold cS;rw[<- sum_append,<- map_append,List.take_append_drop]
  have h3:=h.m;omega
 obtain⟨f,gg⟩:=bS.open_ sv;refine ak.dd (n:=x.tk.length) (by omega) (λk y u=>y=(((kH x.es p).length+cS x.es (x.ps.take k):Nat):Int)/\u=u1) ⟨by simp[cS],rfl⟩ ?_ ?_
 ·rintro k _ u next bZ ⟨rfl,rfl⟩ av
  refine⟨_,_,gg.rd 0 rfl (by simp),ab.t (by simpa using bZ) ⟨_,_,gg.rd 0 rfl (by simp),by omega,_,aC bZ,_,_,rfl,av _ _ ⟨?_,rfl⟩⟩⟩;have h1:=WT (k+1);rw[eP bZ,sum_append,WT k]at h1;have h2:=jO (k+1);rw[length_map,hlen];simp only[sum_cons,List.sum_nil]at h1;rw[aD (by omega) (by omega)];omega
 rintro _ u next ⟨rfl,rfl⟩
 rw[Bi,take_length,hlen];refine⟨_,_,gg.rd 0 rfl (by simp),ab.f (by simp[Bi]) ⟨_,gg.rd 0 rfl (by simp),ab.mk (λhs=>?_) (λhs=>?_)⟩⟩
 ·have hs:x.M<(((aE x.es p.conds).length+cS x.es x.ps:Nat):Int):=by simpa using hs
  exact hk _ _ x _ (.dZ hc hg zF (by omega)) h rfl rfl rfl rfl sv
 have hs:(((aE x.es p.conds).length+cS x.es x.ps:Nat):Int)<=x.M:=by simpa using hs
 refine⟨λs u'=>∃i:Nat,s=(i:Int)/\i<=x.ps.length/\(∀(j:Nat) (h:j<x.ps.length),j<i->bE x.ps[j].name p.name<0)/\(∀h:i<x.ps.length,¬bE x.ps[i].name p.name<0)/\u'=u,?_,?_⟩
 ·refine ak.each (n:=x.ps.length) (by omega) (λk u'=>(∀(j:Nat) (h:j<x.ps.length),j<k->bE x.ps[j].name p.name<0)/\u'=u) ⟨λj h1 h2=>by omega,rfl⟩ ?_ ?_
  ·rintro k u' iZ bZ ⟨za,rfl⟩ g_;refine⟨_,_,gg.rd 0 rfl (by simp),ab.t (by simpa using bZ) ⟨_,_,gg.rd 0 rfl (by simp),by omega,_,aC bZ,_,rfl,ab.mk (λhl=>g_ _ ⟨λj h1 h2=>?_,rfl⟩) (λhl=>⟨k,rfl,by omega,za,λ_ bI=>?_,rfl⟩)⟩⟩
   ·by_cases e:j=k
    ·subst e;exact lT.2 hl
    ·exact za j h1 (by omega)
   ·rw[lT.1 bI]at hl;cases hl
  ·rintro u' iZ ⟨za,rfl⟩;exact⟨_,_,gg.rd 0 rfl (by simp),ab.f (by simp) ⟨x.ps.length,rfl,by omega,za,λh=>absurd h (by omega),rfl⟩⟩
 ·rintro _ _ ⟨i,rfl,hi,za,nE,rfl⟩;have Zk:x.ps.take i++p::x.ps.drop i=aZ bE jJ p x.ps:=by
   refine UO hi za λj hj Km=>?_;have aQ:∀(q:Nat) (h:q<x.ps.length),bE x.ps[q].name p.name≠0:=λq hq e=>ca _ (getElem_mem hq) ((cJ.zero _ _).1 e);have h1:0<bE (jJ x.ps[i]) (jJ p):=by
    have a1:=nE (by omega);have a2:=aQ i (by omega);show 0<bE x.ps[i].name p.name;omega
   by_cases e:j=i
   ·subst e;exact h1
   ·have h2:=List.pairwise_iff_getElem.1 h.Jo i j (by omega) hj (by omega);have h3:=(cJ.flip (jJ p) (jJ x.ps[i])).2 h1;exact(cJ.flip _ _).1 (cJ.trans _ _ _ h3 h2)
  have e0:toNat (0:Int)=0:=rfl;have ei:toNat ((i:Nat):Int)=i:=rfl;refine⟨λs u'=>s.2=((x.ps.take i++[p]).map Prod.pv)/\Ow (e_ s.1 (i+1) 3::Pt r 47 (x.pv f)::L) u',?_,?_⟩
  ·have go:∀{u:Mem} (O:Ow (Pt r 47 (x.pv f)::L) u),aT true 3 64 .nil [] (drop (toNat (0:Int)) (take (toNat ((i:Nat):Int)) (x.ps.map Prod.pv))) u λf98 Wv=>aT false 3 64 f98 ([]++(drop (toNat (0:Int)) (take (toNat ((i:Nat):Int)) (x.ps.map Prod.pv)))) [[pS p.name,.list 7 .sh (p.conds.map ae.pv),.list 19 .sh (p.bk.map cT.pv)]] Wv λf101 TO=>([]++drop (toNat (0:Int)) (take (toNat ((i:Nat):Int)) (x.ps.map Prod.pv)))++[[pS p.name,.list 7 .sh (p.conds.map ae.pv),.list 19 .sh (p.bk.map cT.pv)]]=((x.ps.take i++[p]).map Prod.pv)/\Ow (e_ f101 (i+1) 3::Pt r 47 (x.pv f)::L) TO:=λO=>by
    rw[e0,ei,drop_zero,<- map_take,nil_append];have Xc:(x.ps.take i).length=i:=by rw[length_take];omega
    refine Ow.Td O (by simp;omega) (by simp;omega) λf1 u1 h1=>h1.app rfl (by simp;omega) (by simp;omega) λf2 u2 h2=>⟨by rw[map_append];rfl,?_⟩;rw[length_map,Xc]at h2;exact h2
   exact⟨_,_,gg.rd 0 rfl (by simp),by omega,by omega,by simpa using hi,go gg,go gg⟩
  ·rintro⟨f1,_⟩ u1 ⟨rfl,h1⟩;dsimp only at h1 |-;have hd:∀{T:Type} (l:List T) (g:T->List PV),l.length=x.ps.length->drop (toNat ((i:Nat):Int)) (take (toNat (((l.map g).length:Nat):Int)) (l.map g))=(l.drop i).map g:=λl g hl=>by
    rw[ei,toNat_natCast,take_length,<- map_drop]
   have ht:∀{T:Type} (l:List T) (g:T->List PV),[]++drop (toNat (0:Int)) (take (toNat ((i:Nat):Int)) (l.map g))=(l.take i).map g:=λl g=>by
    rw[e0,ei,drop_zero,<- map_take,nil_append]
   have zD:∀{T:Type} (l:List T) (g:T->List PV),drop (toNat (0:Int)) (take (toNat ((i:Nat):Int)) (l.map g))=(l.take i).map g:=λl g=>by
    rw[e0,ei,drop_zero,<- map_take]
   have Gs:(x.ps.take i++[p]).map Prod.pv++(x.ps.drop i).map Prod.pv=(aZ bE jJ p x.ps).map Prod.pv:=by rw[<- Zk,<- map_append];simp
   have wE:((x.tk.take i).map yn++[[.list 3 .sh ((kH x.es p).map cx.pv)]])++(x.tk.drop i).map yn=((aZ bE jJ p x.ps).map (kH x.es)).map yn:=by
    rw[<- Zk,gf,<- map_take,<- map_drop];simp
   have mo':((x.mo.take i).map qg++[[pI ((qh x.es p:Nat):Int)]])++(x.mo.drop i).map qg=((aZ bE jJ p x.ps).map (qh x.es)).map qg:=by
    rw[<- Zk,hmo,<- map_take,<- map_drop];simp
   have Xc:(x.ps.take i).length=i:=by rw[length_take];omega
   refine⟨_,_,h1.rd 1 rfl (by simp),by omega,by simpa using hi,by omega,?_⟩;rw[hd x.ps Prod.pv rfl];refine h1.app (by simp[Xc];omega) (by simp;omega) (by simp;omega) λf2 u2 h2=>?_;dsimp only[nP,nn,aN];refine h2.st 1 rfl (by simp) λu3 h3=>?_;rw[Gs]at h3;refine⟨_,_,h3.rd 1 rfl (by simp[dx]),by omega,by omega,by simpa[Bi]using hi,?_⟩;rw[ht x.tk yn,zD x.tk yn];have ak5:(x.tk.take i).length=i:=by rw[length_take];omega
   refine Ow.Td h3.drop (by simp;omega) (by simp;omega) λf3 u4 h4=>h4.app (by simp) (by simp;omega) (by simp;omega) λf4 u5 h5=>?_;refine⟨_,_,h5.rd 1 rfl (by simp[dx]),by omega,by simpa[Bi]using hi,by omega,?_⟩;rw[hd x.tk yn Bi];refine h5.app (by simp) (by simp;omega) (by simp;omega) λf5 u6 h6=>?_;refine h6.st 1 rfl (by simp[dx]) λu7 h7=>?_;rw[wE]at h7;refine⟨_,_,h7.rd 1 rfl (by simp[dx]),by omega,by omega,by simpa[Kj]using hi,?_⟩;rw[ht x.mo qg,zD x.mo qg];refine Ow.Td h7.drop (by simp;omega) (by simp;omega) λf6 u8 h8=>h8.app (by simp) (by simp;omega) (by simp;omega) λf7 u9 h9=>?_;refine⟨_,_,h9.rd 1 rfl (by simp[dx]),by omega,by simpa[Kj]using hi,by omega,?_⟩;rw[hd x.mo qg Kj];refine h9.app (by simp) (by simp;omega) (by simp;omega) λf8 u10 tG=>?_;refine tG.st 1 rfl (by simp[dx]) λu11 CE=>?_;rw[mo']at CE;refine hk 0 (aZ bE jJ p x.ps) ⟨x.B,x.M,aZ bE jJ p x.ps,x.es,(aZ bE jJ p x.ps).map (kH x.es),(aZ bE jJ p x.ps).map (qh x.es)⟩ _ (.ok hc hg zF (by omega)) (h.add hp hg zF (by omega) hl) rfl rfl rfl rfl ?_;exact bS.shut (x:=⟨x.B,x.M,aZ bE jJ p x.ps,x.es,(aZ bE jJ p x.ps).map (kH x.es),(aZ bE jJ p x.ps).map (qh x.es)⟩) (f:=(f2,f.2.1,f5,f8)) CE.drop
end
theorem GQ{es fs:List aj}(h:es.Perm fs)(ps:List Prod):cS es ps=cS fs ps:=by
 unfold cS;congr 1;exact List.map_congr_left λp _=>(lh h p.conds).length_eq
section
variable {B M:Int} {es fs:List aj} {ps:List Prod}
theorem qW.perm(hp:es.Perm fs){p:Prod}{e:Int}{Gs:List Prod}(h:qW B M fs ps p e Gs):qW B M es ps p e Gs:=by
 have ho:=s_ hp (B:=B) (l:=p.conds);have hs:=GQ hp ps;have hl:=(lh hp p.conds).length_eq;cases h with
 |form h=>exact .form h
 |there h h2=>exact .there h h2
 |dN h h2 h3=>exact .dN h h2 (ho.2 h3)
 |dZ h h2 h3 h4=>exact .dZ h h2 (λh=>h3 (ho.1 h)) (by rw[hs,hl];exact h4)
 |ok h h2 h3 h4=>exact .ok h h2 (λh=>h3 (ho.1 h)) (by rw[hs,hl];exact h4)
theorem qW.uniq{p:Prod}{e e':Int}{oa ps2:List Prod}(h:qW B M es ps p e oa)(k:qW B M es ps p e' ps2):e=e'/\oa=ps2:=by
 cases h with
 |form h=>cases k with
  |form=>exact⟨rfl,rfl⟩
  |there k=>exact absurd k h
  |dN k=>exact absurd k h
  |dZ k=>exact absurd k h
  |ok k=>exact absurd k h
 |there h h2=>cases k with
  |form k=>exact absurd h k
  |there=>exact⟨rfl,rfl⟩
  |dN _ k=>rw[k]at h2;cases h2
  |dZ _ k=>rw[k]at h2;cases h2
  |ok _ k=>rw[k]at h2;cases h2
 |dN h h2 h3=>cases k with
  |form k=>exact absurd h k
  |there _ k=>rw[h2]at k;cases k
  |dN=>exact⟨rfl,rfl⟩
  |dZ _ _ k=>exact absurd h3 k
  |ok _ _ k=>exact absurd h3 k
 |dZ h h2 h3 h4=>cases k with
  |form k=>exact absurd h k
  |there _ k=>rw[h2]at k;cases k
  |dN _ _ k=>exact absurd k h3
  |dZ=>exact⟨rfl,rfl⟩
  |ok _ _ _ k=>omega
 |ok h h2 h3 h4=>cases k with
  |form k=>exact absurd h k
  |there _ k=>rw[h2]at k;cases k
  |dN _ _ k=>exact absurd k h3
  |dZ _ _ _ k=>omega
  |ok=>exact⟨rfl,rfl⟩
theorem FI(hp:es.Perm fs){d:List Int}:eQ es d↔eQ fs d:=by
 unfold eQ;simp only[hp.mem_iff]
theorem IH(hp:es.Perm fs){a:List aj}{d:List Int}:eL es a d↔eL fs a d:=by
 unfold eL;simp only[hp.mem_iff]
theorem OY(hp:es.Perm fs){a:List aj}{d:List Int}{l:List aj}:vS es a d l↔vS fs a d l:=by
 unfold vS;simp only[hp.mem_iff]
variable {add:List aj} {drop:List Int}
theorem mg.same(hp:es.Perm fs){e e':Int}{nT es2:List aj}(h:mg B M es ps add drop e nT)(k:mg B M fs ps add drop e' es2):e=e'/\nT.Perm es2:=by
 have hd:=FI hp (d:=drop);have ha:=IH hp (a:=add) (d:=drop);have hn:∀{l l':List aj},vS es add drop l->vS fs add drop l'->l=l':=λh k=>h.uniq ((OY hp).2 k);cases h with
 |form h=>cases k with
  |form=>exact⟨rfl,hp⟩
  |none k=>exact absurd k h
  |there k=>exact absurd k h
  |dN k=>exact absurd k h
  |dZ k=>exact absurd k h
  |ok k=>exact absurd k h
 |none h h2=>cases k with
  |form k=>exact absurd h k
  |none=>exact⟨rfl,hp⟩
  |there _ k=>exact absurd (hd.2 k) h2
  |dN _ k=>exact absurd (hd.2 k) h2
  |dZ _ k=>exact absurd (hd.2 k) h2
  |ok _ k=>exact absurd (hd.2 k) h2
 |there h h2 h3=>cases k with
  |form k=>exact absurd h k
  |none _ k=>exact absurd (hd.1 h2) k
  |there=>exact⟨rfl,hp⟩
  |dN _ _ k=>exact absurd (ha.2 k) h3
  |dZ _ _ k=>exact absurd (ha.2 k) h3
  |ok _ _ k=>exact absurd (ha.2 k) h3
 |dN h h2 h3 l h4 h5=>cases k with
  |form k=>exact absurd h k
  |none _ k=>exact absurd (hd.1 h2) k
  |there _ _ k=>exact absurd (ha.1 h3) k
  |dN=>exact⟨rfl,hp⟩
  |dZ _ _ _ l' k4 k5=>rw[hn h4 k4]at h5;exact absurd h5 k5
  |ok _ _ _ l' k4 k5=>rw[hn h4 k4]at h5;exact absurd h5 k5
 |dZ h h2 h3 l h4 h5 h6=>cases k with
  |form k=>exact absurd h k
  |none _ k=>exact absurd (hd.1 h2) k
  |there _ _ k=>exact absurd (ha.1 h3) k
  |dN _ _ _ l' k4 k5=>rw[<- hn h4 k4]at k5;exact absurd k5 h5
  |dZ=>exact⟨rfl,hp⟩
  |ok _ _ _ l' k4 k5 k6=>rw[hn h4 k4]at h6;omega
 |ok h h2 h3 l h4 h5 h6=>cases k with
  |form k=>exact absurd h k
  |none _ k=>exact absurd (hd.1 h2) k
  |there _ _ k=>exact absurd (ha.1 h3) k
  |dN _ _ _ l' k4 k5=>rw[<- hn h4 k4]at k5;exact absurd k5 h5
  |dZ _ _ _ l' k4 k5 k6=>rw[<- hn h4 k4]at k6;omega
  |ok _ _ _ l' k4=>rw[hn h4 k4];exact⟨rfl,Perm.refl _⟩
theorem mg.up(hu:b_ aw aG es){e:Int}{nT:List aj}(h:mg B M es ps add drop e nT):b_ aw aG nT:=by
 cases h with
 |ok _ _ _ _ h4=>exact h4.1
 |_=>exact hu
end
def mS(es:List aj)(p:Prod):List Mt:=(kH es p).map λt=>⟨p.name,t.tags⟩
theorem L_{es:List aj}(h:Cv es)(p:Prod):mS es p=mi es p:=by
 unfold mS mi;rw[<- GM h,map_map];rfl
theorem DA{es fs:List aj}(h:es.Perm fs)(hn:Cv es)(p:Prod):mi es p=mi fs p:=by
 unfold mi;rw[JA (lj hn p.conds) (lh h p.conds)]
theorem OQ{es fs:List aj}(h:es.Perm fs)(hn:Cv es)(ps:List Prod):allM es ps=allM fs ps:=by
 unfold allM;congr 1;funext p;exact DA h hn p
structure CV(x:NC)(es:List aj)(ps:List Prod)(y:po):Prop where
 ok:jW y
 B:y.B=x.T
 M:y.M=x.M
 ps:y.ps=ps
 up:b_ aw aG es
 es:es.Perm y.es
theorem CV.ne{x:NC}{es:List aj}{ps:List Prod}{y:po}(h:CV x es ps y):Cv es:=ym h.up
theorem CV.all{x:NC}{es:List aj}{ps:List Prod}{y:po}(h:CV x es ps y):y.ps.flatMap (mS y.es)=allM es ps:=by
 rw[OQ h.es h.ne,h.ps];unfold allM;congr 1;funext p;exact L_ h.ok.ne p
theorem zU{l:List aj}(h:(l.map aG).Nodup):l.Nodup:=List.Pairwise.of_map aG (λa b h e=>h (congrArg aG e)) h
theorem GJ{l:List aj}(h:b_ aw aG l):l.Nodup:=zU (jm h)
theorem NI{l:List aj}(h:Cv l):(l.map aG).Nodup:=by rw[List.nodup_iff_pairwise_ne,pairwise_map];exact h
theorem NG{l:List aj}(h:(l.map aG).Nodup):Cv l:=by rw[List.nodup_iff_pairwise_ne,pairwise_map]at h;exact h
theorem abO{l:List aj}(h:Cv l):∃l',b_ aw aG l'/\l'.Perm l:=by
 have hn:=NI h;have hu:b_ aw aG (cm l []):=lb l Pairwise.nil;refine⟨cm l [],hu,(List.perm_ext_iff_of_nodup (GJ hu) (zU hn)).2 λe=>?_⟩;rw[fu hn (by simp)];simp
def dk(es:List aj)(d:List Int):List aj:=es.filter λe=>decide (e.tag∉d)
theorem jh{α:Type}{l:List α}{i:Nat}(h:i<l.length):l.take (i+1)=l.take i++[l[i]]:=by rw[take_add_one,getElem?_eq_getElem h];rfl
theorem tL{es:List aj}{d:List Int}{i:Nat}(h:i<d.length):(dk es (d.take i)).filter (λe=> !(e.tag == d[i]))=dk es (d.take (i+1)):=by
 unfold dk;rw[List.filter_filter,jh h];refine List.filter_congr λe _=>?_;simp only[mem_append,mem_singleton,not_or];by_cases h1:e.tag=d[i]<;>by_cases h2:e.tag∈d.take i<;>simp[h1,h2]<;>simp_all
theorem vC{α:Type}{p:α->Bool}:∀{l:List α},(l.filter p).length=l.length->∀x∈l,p x=true
 |[],_,_,h=>by simp at h
 |y::l,h,x,hx=>by
  have h1:=List.length_filter_le p l
  rw[List.filter_cons]at h;cases hp:p y with
  |false=>
   rw[hp]at h;simp only[Bool.false_eq_true,if_false,length_cons]at h;omega
  |true=>
   rw[hp]at h;simp only[if_true,length_cons]at h;rcases mem_cons.1 hx with rfl|hx
   ·exact hp
   ·exact vC (by omega) x hx
theorem KC{es:List aj}{d:List Int}{i:Nat}(h:i<d.length)(hl:(dk es (d.take (i+1))).length=(dk es (d.take i)).length):¬eQ es d:=by
 rintro⟨hn,hd⟩;rw[<- tL h]at hl;obtain⟨e,he,ht⟩:=hd _ (getElem_mem h);have HN:d[i]∉d.take i:=λhm=>by
  obtain⟨j,hj,e⟩:=List.mem_iff_getElem.1 hm;rw[List.getElem_take]at e;rw[length_take]at hj;have:=(List.getElem_inj hn).1 e;omega
 have:=vC hl e (mem_filter.2 ⟨he,by rw[ht];simpa using HN⟩);simp[ht]at this
theorem FH{es:List aj}{d:List Int}{i:Nat}(h:i<d.length)(ho:eQ es (d.take i))(hl:(dk es (d.take (i+1))).length≠(dk es (d.take i)).length):eQ es (d.take (i+1)):=by
 obtain⟨hn,hd⟩:=ho;have:∃e∈dk es (d.take i),e.tag=d[i]:=by
  refine Classical.byContradiction λhc=>hl ?_;rw[<- tL h];congr 1;refine List.filter_eq_self.2 λe he=>?_;have:e.tag≠d[i]:=λe'=>hc ⟨e,he,e'⟩;simpa using this
 obtain⟨e,he,ht⟩:=this;obtain⟨h1,h2⟩:=mem_filter.1 he;rw[jh h];refine⟨?_,λt hm=>?_⟩
 ·rw[List.nodup_append];refine⟨hn,by simp,λa ha b hb=>?_⟩;simp only[mem_singleton]at hb;subst hb;rintro rfl;rw[ht]at h2;simp[ha]at h2
 ·rcases mem_append.1 hm with hm|hm
  ·exact hd t hm
  ·simp only[mem_singleton]at hm;exact⟨e,h1,by rw[hm,ht]⟩
theorem OR{es add:List aj}{d:List Int}{k:Nat}(h:k<add.length)(hh:∃e∈dk es d++add.take k,e.tag=add[k].tag):¬eL es add d:=by
 rintro⟨hn,ha⟩;obtain⟨e,he,ht⟩:=hh;rcases mem_append.1 he with he|he
 ·obtain⟨h1,h2⟩:=mem_filter.1 he;have:=ha _ (getElem_mem h) ⟨e,h1,ht⟩;rw[<- ht]at this;simp[this]at h2
 ·obtain⟨j,hj,rfl⟩:=List.mem_iff_getElem.1 he;rw[List.getElem_take]at ht;rw[length_take]at hj;have Jd:j<(add.map aG).length:=by rw[length_map];omega
  have bZ:k<(add.map aG).length:=by rw[length_map];omega
  have:(add.map aG)[j]=(add.map aG)[k]:=by rw[getElem_map,getElem_map];exact ht
  have:=(List.getElem_inj hn).1 this;omega
theorem IG{es add:List aj}{d:List Int}{k:Nat}(h:k<add.length)(ho:eL es (add.take k) d)(cQ:∀e∈dk es d++add.take k,e.tag≠add[k].tag):eL es (add.take (k+1)) d:=by
 obtain⟨hn,ha⟩:=ho;rw[jh h];refine⟨?_,λa hm=>?_⟩
 ·rw[map_append,List.nodup_append];refine⟨hn,by simp,λa ha b hb=>?_⟩;simp only[map_cons,List.map_nil,mem_singleton]at hb;subst hb;rintro rfl;obtain⟨x,hx,e⟩:=mem_map.1 ha;exact cQ x (mem_append.2 (.inr hx)) e
 ·rcases mem_append.1 hm with hm|hm
  ·exact ha a hm
  ·simp only[mem_singleton]at hm;subst hm;rintro⟨e,he,ht⟩;refine Classical.byContradiction λhc=>cQ e (mem_append.2 (.inl (mem_filter.2 ⟨he,?_⟩))) ht;rw[ht];simpa using hc
theorem ZN{es add:List aj}{d:List Int}(hn:Cv es)(ha:eL es add d):Cv (dk es d++add):=by
 refine List.pairwise_append.2 ⟨hn.filter _,NG ha.1,λa h1 b h2 e=>?_⟩;obtain⟨h3,h4⟩:=mem_filter.1 h1;have:=ha.2 b h2 ⟨a,h3,e⟩;rw[<- e]at this;simp[this]at h4
theorem VH{es add:List aj}{d:List Int}{l':List aj}(hu:b_ aw aG l')(hp:l'.Perm (dk es d++add)):vS es add d l':=by
 refine⟨hu,λe=>?_⟩;rw[hp.mem_iff,mem_append,dk,mem_filter];simp only[decide_eq_true_eq];exact or_comm
theorem KW{S T:Type}{g:S->T}{pv:T->List PV}{l:List S}{k:Nat}(hk:k<l.length):((l.map g).map pv)[toNat (k:Int)]?=some (pv (g l[k])):=by
 rw[map_map];exact aC hk
theorem zJ{ps:List Prod}(hu:b_ bE jJ ps){i:Nat}(hi:i<ps.length):aL bE jJ ps[i].name ps=some ps[i]:=(a_ cJ hu).2 ⟨getElem_mem hi,rfl⟩
section
variable {r:Nat} {x:po}
theorem jW.Wx(h:jW x){p:Prod}(hp:p∈x.ps):(kH x.es p).length<=1024:=by
 have h1:=GL h.b.1 (h.le p hp);have h2:=h.b.2;rw[zQ h.ne];omega
theorem ve(es:List aj)(p:Prod):(mS es p).length=(kH es p).length:=by unfold mS;rw[length_map]
theorem jW.ZH(h:jW x)(i:Nat):((x.ps.take i).flatMap (mS x.es)).length<=102400:=by
 rw[List.length_flatMap];have h1:=Ew (l:=x.ps.take i) (f:=λp=>(mS x.es p).length) (b:=1024) λp hp=>by rw[ve];exact h.Wx (mem_of_mem_take hp)
 have h2:=h.GC;rw[length_take]at h1;omega
theorem XI(h:jW x){L:List aR}{μ:Mem}(hO:Ow (bS r x::L) μ){K:Kq}(hk:∀f μ',Ow (bS r x::L) μ'->K (.list 2 f ((x.ps.flatMap (mS x.es)).map Mt.pv)) μ'):aa prog 38 [pP r 0] μ K:=by
 have CC:=h.GC;have Bi:=λp hp=>h.Wx (p:=p) hp;have kP:=h.ZH;obtain⟨B,M,ps,es,tk,mo⟩:=x;have gf:tk=ps.map (kH es):=h.tk;subst gf;dsimp only at CC Bi kP hk |-;obtain⟨f,sv⟩:=bS.open_ hO;refine pz.c ?_;refine ak.dd (n:=ps.length) (by omega) (λi s u=>s.2=((ps.take i).flatMap (mS es)).map Mt.pv/\Ow (e_ s.1 ((ps.take i).flatMap (mS es)).length 2::Pt r 47 (po.pv ⟨B,M,ps,es,ps.map (kH es),mo⟩ f)::L) u) ⟨rfl,sv.nil (.inl rfl)⟩ ?_ ?_
 ·rintro i ⟨f1,_⟩ u next hi ⟨rfl,h1⟩ av
  have Xc:=kP i;have zb:=Bi _ (getElem_mem hi);refine⟨_,_,h1.rd 1 rfl (by simp),ab.t (by simpa using hi) ?_⟩;refine ak.dd (n:=(kH es ps[i]).length) (by omega) (λk s u=>s.2=((ps.take i).flatMap (mS es)++(mS es ps[i]).take k).map Mt.pv/\Ow (e_ s.1 (((ps.take i).flatMap (mS es)).length+k) 2::Pt r 47 (po.pv ⟨B,M,ps,es,ps.map (kH es),mo⟩ f)::L) u) ⟨by simp,h1⟩ ?_ ?_
  ·rintro k ⟨f2,_⟩ u2 AO eK ⟨rfl,h2⟩ lM;have hkm:k<(mS es ps[i]).length:=by rw[ve];exact eK
   refine⟨_,_,h2.rd 1 rfl (by simp),by omega,_,KW hi,_,_,rfl,ab.t (by simpa using eK) ⟨_,_,h2.rd 1 rfl (by simp),by omega,_,aC hi,_,rfl,_,_,h2.rd 1 rfl (by simp),by omega,_,KW hi,_,_,rfl,by omega,_,aC eK,_,_,rfl,?_⟩⟩;have ek:Mt.pv (mS es ps[i])[k]=[pS ps[i].name,.list 1 .sh ((kH es ps[i])[k].tags.map gq)]:=by simp[mS]
   refine h2.app (by rw[length_map,length_append,length_take,Nat.min_eq_left (by omega)]) (by show(_+k+1)*40<=_;omega) (by show _+k+1<_;omega) λf3 u3 h3=>lM _ _ ⟨?_,h3⟩;rw[jh hkm,<- append_assoc,map_append (l₂:=[(mS es ps[i])[k]]),List.map_singleton,ek]
  ·rintro⟨f2,_⟩ u2 AO ⟨rfl,h2⟩;refine⟨_,_,h2.rd 1 rfl (by simp),by omega,_,KW hi,_,_,rfl,ab.f (by simp) (av _ _ ⟨?_,?_⟩)⟩
   ·rw[<- ve,take_length,FB hi]
   ·rw[FB hi,length_append,ve];exact h2
 ·rintro⟨f1,_⟩ u next ⟨rfl,h1⟩
  rw[take_length]at h1 |-;exact⟨_,_,h1.rd 1 rfl (by simp),ab.f (by simp) (hk f1 u (bS.shut (f:=f) h1.drop))⟩
end
theorem Yr(f g:Fl)(l m:List Int)(hl:l.length<=1000000000):bQ 77 [.list 1 f (l.map gq),.list 1 g (m.map gq)] (l=m):=by
 refine au.of (wv.c (ab.mk (λh=>bQ.no (qf h)) (λh=>?_)));refine jr (l:=l) (m:=m) (n:=l.length) rfl (nK h) (by omega) (λk hk bZ u next hy cQ=>?_) (λu next e=>ab.f (by simp) (bQ.yes e));exact ab.t (by simpa using hk) ⟨by omega,_,aC hk,_,rfl,by omega,_,aC bZ,_,rfl,ab.mk (λh=>bQ.no (cQ λe=>by rw[e]at h;simp at h)) (λh=>hy (by simpa using h) _)⟩
theorem acj{a b:Mt}(h1:a.name=b.name)(h2:a.tags=b.tags):a=b:=by cases a;cases b;simp_all
theorem Ax(f g:Fl)(l m:List Mt)(hl:l.length<=1000000000)(ht:∀x∈l,x.tags.length<=1000000000):bQ 29 [.list 2 f (l.map Mt.pv),.list 2 g (m.map Mt.pv)] (l=m):=by
 refine au.of (qT.c (ab.mk (λh=>bQ.no (qf h)) (λh=>?_)));refine jr (l:=l) (m:=m) (n:=l.length) rfl (nK h) (by omega) (λk hk bZ u next hy cQ=>?_) (λu next e=>ab.f (by simp) (bQ.yes e));refine ab.t (by simpa using hk) ⟨by omega,_,aC hk,_,rfl,by omega,_,aC bZ,_,rfl,ab.mk (λh=>bQ.no (cQ λe=>?_)) (λh=>⟨by omega,_,aC hk,_,_,rfl,by omega,_,aC bZ,_,_,rfl,?_⟩)⟩
 ·rw[e,eG]at h;cases h
 ·have hn:l[k].name=m[k].name:=bF.1 (nt h);exact(Yr .sh .sh _ _ (ht _ (getElem_mem hk))).call (λe=>⟨_,rfl,ab.f rfl (hy (acj hn e) _)⟩) (λaQ=>⟨_,rfl,ab.t rfl (bQ.no (cQ λe=>aQ (by rw[e])))⟩)
theorem Th{a b:cT}:(aF a.id b.id&&(aF a.attr.var b.attr.var&&((a.attr.sym.k == b.attr.sym.k)&&(aF a.attr.sym.t b.attr.sym.t&&((a.attr.sym.n == b.attr.sym.n)&&((a.value.op == b.value.op)&&(aF a.value.a.var b.value.a.var&&((a.value.a.sym.k == b.value.a.sym.k)&&(aF a.value.a.sym.t b.value.a.sym.t&&((a.value.a.sym.n == b.value.a.sym.n)&&(aF a.value.b.var b.value.b.var&&((a.value.b.sym.k == b.value.b.sym.k)&&(aF a.value.b.sym.t b.value.b.sym.t&&((a.value.b.sym.n == b.value.b.sym.n)&&((a.p_ == b.p_)&&(aF a.other.var b.other.var&&((a.other.sym.k == b.other.sym.k)&&(aF a.other.sym.t b.other.sym.t&&((a.other.sym.n == b.other.sym.n)&&true)))))))))))))))))))=true↔a=b:=by
 obtain⟨a0,⟨a1,a2,a3,a4⟩,⟨a5,⟨a6,a7,a8,a9⟩,⟨a10,a11,a12,a13⟩⟩,a14,⟨a15,a16,a17,a18⟩⟩:=a;obtain⟨b0,⟨b1,b2,b3,b4⟩,⟨b5,⟨b6,b7,b8,b9⟩,⟨Wc,tS,b12,BM⟩⟩,b14,⟨b15,b16,b17,b18⟩⟩:=b;simp[bF,and_assoc]
theorem aca(f g:Fl)(l m:List cT)(hl:l.length<=1000000000):bQ 123 [.list 19 f (l.map cT.pv),.list 19 g (m.map cT.pv)] (l=m):=by
 refine au.of (wy.c (ab.mk (λh=>bQ.no (qf h)) (λh=>?_)));refine jr (l:=l) (m:=m) (n:=l.length) rfl (nK h) (by omega) (λk hk bZ u next hy cQ=>?_) (λu next e=>ab.f (by simp) (bQ.yes e));refine ab.t (by simpa using hk) ⟨by omega,_,aC hk,_,_,_,_,_,_,_,_,_,_,_,_,_,_,_,_,_,_,_,rfl,by omega,_,aC bZ,_,_,_,_,_,_,_,_,_,_,_,_,_,_,_,_,_,_,_,rfl,ab.mk (λh=>bQ.no (cQ λe=>?_)) (λh=>hy (Th.1 (nt h)) _)⟩;have:=nb h;rw[Th.2 e]at this;cases this
theorem Us{a b:Prod}(h1:a.name=b.name)(h2:a.conds=b.conds)(h3:a.bk=b.bk):a=b:=by cases a;cases b;simp_all
theorem ab_(f1 f2 f3 f4:Fl)(p q:Prod)(hl:bX p.conds)(hs:ah p.conds<=1000000)(ha:p.bk.length<=1000000):bQ 62 [.agg [pS p.name,.list 7 f1 (p.conds.map ae.pv),.list 19 f2 (p.bk.map cT.pv)],.agg [pS q.name,.list 7 f3 (q.conds.map ae.pv),.list 19 f4 (q.bk.map cT.pv)]] (p=q):=by
 refine au.of (wu.c (ab.mk (λh1=>?_) (λh=>bQ.no λe=>?_)))
 ·refine(Ys _ f1 f3 p.conds q.conds (le_refl _) hs hl).call (λe1=>⟨_,rfl,ab.t rfl ?_⟩) (λaQ=>⟨_,rfl,ab.f rfl (bQ.no λe=>aQ (by rw[e]))⟩);exact(aca f2 f4 p.bk q.bk (by omega)).call (λe2=>⟨_,rfl,bQ.yes (Us (bF.1 h1) e1 e2)⟩) (λaQ=>⟨_,rfl,bQ.no λe=>aQ (by rw[e])⟩)
 ·rw[e,eG]at h;cases h
def HB(p:Prod):Prop:=bX p.conds/\ah p.conds<=50/\p.bk.length<=50
theorem UL{p:Prod}(h:JX p):HB p:=⟨h.1,by have:=h.2.1;omega,by have:=h.2.2.1;omega⟩
theorem Iv(f:Fl)(ps:List Prod)(n:Nat)(hn:n<=1000000):au prog 30 [.list 3 f (ps.map Prod.pv),pI (n:Nat)] λv=>∃q:Bool,v=pB q/\(q=false->ps.length<=n/\∀p∈ps,HB p):=by
 refine au.of (nQ.c (ab.mk (λ_=>⟨true,rfl,λh=>by cases h⟩) (λh=>?_)));have hl:ps.length<=n:=by simpa using h
 refine ak.each (n:=ps.length) (by omega) (λk _=>∀p∈ps.take k,HB p) (by simp) (λk u next hk hI av=>?_) (λu next hI=>ab.f (by simp) ⟨false,rfl,λ_=>⟨hl,by rwa [take_length]at hI⟩⟩);refine ab.t (by simpa using hk) ⟨by omega,_,aC hk,_,_,_,_,_,rfl,(aac .sh .sh ps[k]).call ?_⟩;rintro _ ⟨q,rfl,hq⟩;refine⟨_,rfl,ab.mk (λ_=>⟨true,rfl,λh=>by cases h⟩) (λhf=>av _ λp hp=>?_)⟩;rcases(dO hk).1 hp with hp|rfl
 ·exact hI p hp
 ·exact UL (hq hf)
theorem KQ(f:Fl)(l:List cT)(hl:l.length<=1000000):Pure prog 72 [.list 19 f (l.map cT.pv)] (.list 19 .sh (l.map cT.pv)):=by
 refine au.of (mw.c ?_);exact aT.Pq (by trivial) (by simp;omega) (by simp;omega) λf1 μ1 t1=>rfl
theorem KN(f1 f2:Fl)(p:Prod)(h:HB p):Pure prog 20 [.agg [pS p.name,.list 7 f1 (p.conds.map ae.pv),.list 19 f2 (p.bk.map cT.pv)]] (.agg [pS p.name,.list 7 .sh (p.conds.map ae.pv),.list 19 .sh (p.bk.map cT.pv)]):=by
 obtain⟨h1,h2,h3⟩:=h;refine au.of (pE.c ?_);refine(KO _ f1 p.conds (le_refl _) (by omega) h1).q ⟨_,_,rfl,?_⟩;refine(KQ f2 p.bk (by omega)).q ⟨_,_,rfl,?_⟩;rfl
theorem KK{fn:Fn}{a b:List PV}{A:aR}{l:List Mt}(hs:F_ prog (.fn fn a b) (l.map λm=>[.agg m.pv]) A)(hl:l.length<=1000000){L:List aR}{μ:Mem}(hO:Ow (A::L) μ){K:Kq}(hk:∀f μ',Ow (A::L) μ'->K (.list 2 f (l.map Mt.pv)) μ'):
  aa prog 23 [.fn fn a b] μ K:=by
 refine kU.c λb3 Kr=>?_;have O1:=jy.new (hO.new 48 [.list 2 .nil []] Kr);refine bu.acb hs (Ow.swap O1) (λk u=>Ow (jy b3 48 2 ((l.take k).map Mt.pv)::L) u) (λ_ _=>False) (λk=>eC.own _) (λ_ _ _ _ h=>h.elim) (λμ' h'=>h') ?_ ?_ (λc u h=>?_)
 ·rintro k eK u R h2 ca _;have bZ:k<l.length:=by simpa using eK
  rw[getElem_map];refine⟨_,_,_,rfl,?_⟩;refine jy.go 0 h2 rfl (by simp;omega) (by simp;omega) λu4 h4=>ca _ ?_;rw[eP bZ];exact h4
 ·intro u h;rw[length_map]at h;have h2:Ow (A::jy b3 48 2 ((l.take l.length).map Mt.pv)::L) u:=h.tail λ_ h=>h.Uy;rw[take_length]at h2;obtain⟨f,hf⟩:=jy.rd 1 h2 rfl;dsimp only[PK];exact⟨_,_,hf,hk f u (h2.tail λ_ h=>h.drop)⟩
 ·obtain⟨_,_,_,_,_,_,_,_,_,h,_⟩:=h;exact h.elim
def LR(B:Int)(es:List aj)(l:List ae):Bool:=(range l.length).any λi=>(range (aO (l[i]?.getD GF))).any λj=>decide (B<((du es (l[i]?.getD GF) (aE es (l.take i)) j:Nat):Int))
theorem Dt{B:Int}(hB:0<=B){es:List aj}{l:List ae}:LR B es l=true↔dj B es l:=by
 unfold LR dj;rw[any_eq_true];constructor
 ·rintro⟨i,hi,h⟩;have tD:=mem_range.1 hi;obtain⟨j,hj,h2⟩:=any_eq_true.1 h;rw[getElem?_eq_getElem tD]at h2;exact⟨i,tD,j,by simpa using h2⟩
 ·rintro⟨i,hi,j,h⟩;refine⟨i,mem_range.2 hi,any_eq_true.2 ⟨j,?_,?_⟩⟩
  ·rw[getElem?_eq_getElem hi];refine mem_range.2 ?_;by_cases hj:j<aO l[i]
   ·exact hj
   ·rw[Sk es l[i] _ (by omega)]at h;omega
  ·rw[getElem?_eq_getElem hi];simpa using h
theorem OC(t:ByteArray):Pure prog 53 [pS t] (.agg [pI 3,pS t,pI 0]):=au.of (zp.c rfl)
theorem ZY(k:Int):Pure prog 56 [pI k] (.agg [pI 2,pS ⟨#[]⟩,pI k]):=au.of (zq.c rfl)
theorem aif(t:ByteArray)(k:Int):Pure prog 55 [pS t,pI k] (.agg [pI 1,pS t,pI k]):=au.of (zr.c rfl)
def wS(t:ByteArray):Sym:=⟨3,t,0⟩
def nS(k:Int):Sym:=⟨2,⟨#[]⟩,k⟩
def iS(t:ByteArray)(k:Int):Sym:=⟨1,t,k⟩
def CJ(v:ByteArray)(s:Sym):List Test:=[⟨1,v,s,[]⟩]
theorem ML(v:ByteArray)(s:Sym):Pure prog 54 [pS v,.agg s.pv] (.list 6 .sh ((CJ v s).map Test.pv)):=au.of (yf.c rfl)
def Pa:Prod:=⟨⟨#[97]⟩,[.mk 1 true ⟨#[115]⟩ (CJ ⟨#[]⟩ (wS ⟨#[120]⟩)) (CJ ⟨#[118]⟩ ⟨0,⟨#[]⟩,0⟩) false [],.mk 2 false ⟨#[115]⟩ (CJ ⟨#[]⟩ (wS ⟨#[121]⟩)) (CJ ⟨#[118]⟩ ⟨0,⟨#[]⟩,0⟩) false []],[⟨⟨#[115]⟩,⟨⟨#[]⟩,wS ⟨#[122]⟩⟩,⟨0,⟨⟨#[118]⟩,⟨0,⟨#[]⟩,0⟩⟩,⟨⟨#[]⟩,⟨0,⟨#[]⟩,0⟩⟩⟩,1,⟨⟨#[]⟩,⟨0,⟨#[]⟩,0⟩⟩⟩]⟩
def Ji:List aj:=[⟨iS ⟨#[83]⟩ 1,wS ⟨#[120]⟩,nS 1,false,true,1⟩,⟨iS ⟨#[83]⟩ 1,wS ⟨#[120]⟩,nS 2,false,true,2⟩,⟨iS ⟨#[83]⟩ 1,wS ⟨#[121]⟩,nS 2,false,true,3⟩]
theorem bU:(bT Pa).2.1=0:=by kernel_rfl
theorem yW:LR 10 [] Pa.conds=false:=by kernel_rfl
theorem wk3:LR 10 Ji Pa.conds=false:=by kernel_rfl
theorem wk4:cS [] []+(aE [] Pa.conds).length=0:=by kernel_rfl
theorem wk5:cS Ji [Pa]=1:=by kernel_rfl
theorem wk6:allM Ji [Pa]=[⟨⟨#[97]⟩,[1]⟩]:=by kernel_rfl
theorem wkL:bX Pa.conds:=by
 refine⟨⟨by decide,by decide,by decide,?_,?_,trivial⟩,⟨by decide,by decide,by decide,?_,?_,trivial⟩,trivial⟩<;>intro t ht<;>simp[CJ]at ht<;>subst ht<;>exact⟨by decide,by decide,by decide⟩
theorem wk7:vt Ji:=by
 intro e he;simp only[Ji,mem_cons,not_mem_nil,or_false]at he;rcases he with rfl|rfl|rfl<;>exact⟨by kernel_rfl,by decide⟩
theorem wk8:b_ aw aG Ji:=by
 refine Pairwise.cons ?_ (Pairwise.cons ?_ (Pairwise.cons ?_ Pairwise.nil))<;>intro e he<;>simp only[mem_cons,not_mem_nil,or_false]at he
 ·rcases he with rfl|rfl<;>decide
 ·subst he;decide
theorem wk9:(Ji.map aG).Nodup:=jm wk8
theorem abH{B M:Int}(hB:B=10)(hM:M=10){e:Int}{Gs:List Prod}(h:qW B M [] [] Pa e Gs):e=0/\Gs=[Pa]:=by
 subst hB hM;cases h with
 |form h=>exact absurd bU h
 |there _ h2=>cases h2
 |dN _ _ h3=>
  have:=(Dt (by omega)).2 h3;rw[yW]at this;cases this
 |dZ _ _ _ h4=>rw[wk4]at h4;simp at h4
 |ok=>exact⟨rfl,rfl⟩
theorem abG{B M:Int}(hB:B=10)(hM:M=10){e:Int}{pf:List aj}(h:mg B M [] [Pa] Ji [] e pf):e=0/\pf=Ji:=by
 subst hB hM;have hd:eQ [] []:=⟨List.nodup_nil,by simp⟩;have ha:eL [] Ji []:=⟨wk9,by simp⟩;have hn:vS [] Ji [] Ji:=⟨wk8,by simp⟩;cases h with
 |form h=>exact absurd wk7 h
 |none _ h=>exact absurd hd h
 |there _ _ h=>exact absurd ha h
 |dN _ _ _ pf h4 h5=>
  have:=h4.uniq hn;subst this;obtain⟨q,hq,ho⟩:=h5;simp only[mem_singleton]at hq;subst hq;have:=(Dt (by omega)).2 ho;rw[wk3]at this;cases this
 |dZ _ _ _ pf h4 _ h6=>
  have:=h4.uniq hn;subst this;rw[wk5]at h6;simp at h6
 |ok _ _ _ pf h4=>exact⟨rfl,h4.uniq hn⟩
theorem Sq:Pure prog 19 [] (pB true):=by
 refine au.of (rT.c ?_);refine XC 10 10 (L:=[]) trivial (λh=>absurd (by omega) h) λ_ n x u hT hM h1=>⟨_,_,rfl,ab.f rfl (ab.f rfl ?_)⟩;refine(OC _).call ⟨_,_,_,rfl,(ML _ (wS _)).call ⟨_,_,rfl,(ML _ ⟨0,⟨#[]⟩,0⟩).call ⟨_,_,rfl,(OC _).call ⟨_,_,_,rfl,(ML _ (wS _)).call ⟨_,_,rfl,(ML _ ⟨0,⟨#[]⟩,0⟩).call ⟨_,_,rfl,(OC _).call ⟨_,_,_,rfl,(aif _ _).call ⟨_,_,_,rfl,?_⟩⟩⟩⟩⟩⟩⟩⟩;refine(OC _).q ⟨_,_,_,rfl,?_⟩;refine(ZY _).q ⟨_,_,_,rfl,?_⟩;refine(OC _).q ⟨_,_,_,rfl,?_⟩;refine(ZY _).q ⟨_,_,_,rfl,?_⟩;refine(OC _).q ⟨_,_,_,rfl,?_⟩;refine(ZY _).q ⟨_,_,_,rfl,?_⟩;simp only[Mem.sg];refine XE (by omega) .sh .sh Pa wkL (by decide) (by decide) h1 λe Gs u2 CD h2=>⟨_,rfl,?_⟩;obtain⟨rfl,rfl⟩:=abH hT hM CD;refine It (by omega) .nr .nil Ji [] (by decide) (by decide) (by decide) (λe he=>?_) h2 λe pf u3 ahk h3=>⟨_,rfl,?_⟩
 ·simp only[Ji,mem_cons,not_mem_nil,or_false]at he;rcases he with rfl|rfl|rfl<;>decide
 obtain⟨rfl,rfl⟩:=abG hT hM ahk;refine(SF n).call ⟨_,_,_,rfl,KK (l:=allM Ji [Pa]) (EC (by omega)) (by rw[wk6];decide) h3 λf u4 h4=>⟨_,_,rfl,ab.t rfl (ab.t rfl ?_)⟩⟩;rw[wk6];exact ab.t rfl ⟨by omega,_,rfl,_,_,rfl,ab.t rfl ⟨by omega,_,rfl,_,_,rfl,by omega,_,rfl,_,rfl,rfl⟩⟩
section
variable {r:Nat} {y:po}
theorem jW.chg(h:jW y){l:List aj}(hl:l.length<=100000)(hn:Cv l)(h1:¬ ∃p∈y.ps,dj y.B l p.conds)(h2:((cS l y.ps:Nat):Int)<=y.M):jW ⟨y.B,y.M,y.ps,l,y.ps.map (kH l),y.ps.map (qh l)⟩:=
 ⟨h.b,h.m,h.Jo,h.Gt,h.GC,hl,hn,rfl,rfl,λp hp ho=>h1 ⟨p,hp,ho⟩,h2⟩
theorem DU(es:List aj)(d:List Int):(dk es d).length<=es.length:=List.length_filter_le _ _
theorem OJ(h:jW y)(f1 f2:Fl)(add:List aj)(drop:List Int)(hal:add.length<=1000)(hdl:drop.length<=1000)(Pn:y.es.length+add.length<=100000){L:List aR}{μ:Mem}(hO:Ow (bS r y::L) μ){K:Kq}
  (hk:∀e l y' μ',mg y.B y.M y.es y.ps add drop e l->jW y'->y'.B=y.B->y'.M=y.M->y'.ps=y.ps->l.Perm y'.es->Ow (bS r y'::L) μ'->K (pI e) μ'):
  aa prog 40 [pP r 0,.list 12 f1 (add.map aj.pv),.list 1 f2 (drop.map gq)] μ K:=by
 have same:∀{e:Int} {u:Mem},mg y.B y.M y.es y.ps add drop e y.es->Ow (bS r y::L) u->K (pI e) u:=λhc hu=>hk _ _ y _ hc h rfl rfl rfl (Perm.refl _) hu;refine qS.c ?_;refine ak.each (n:=add.length) (by omega) (λk u=>(∀e∈add.take k,j_ e=true/\1<=e.tag)/\u=μ) ⟨by simp,rfl⟩ ?_ ?_
 ·rintro k u next bZ ⟨hg,rfl⟩ av
  refine ab.t (by simpa using bZ) ⟨by omega,_,aC bZ,_,_,_,_,_,_,_,_,_,_,_,_,rfl,(KI add[k]).call ⟨_,rfl,ab.mk (λhv=>?_) (λhv=>⟨by omega,_,aC bZ,_,rfl,ab.mk (λht=>?_) (λht=>av _ ⟨λe he=>?_,rfl⟩)⟩)⟩⟩
  ·refine same (.form λgN=>?_) hO;rw[(gN _ (getElem_mem bZ)).1]at hv;cases hv
  ·refine same (.form λgN=>?_) hO;have h1:=(gN _ (getElem_mem bZ)).2;have:add[k].tag<1:=by simpa using ht
   omega
  ·rcases(dO bZ).1 he with he|rfl
   ·exact hg e he
   ·exact⟨nt hv,by have:¬add[k].tag<1:=by simpa using ht
                   omega⟩
 rintro u next ⟨gN,rfl⟩
 rw[take_length]at gN;have gN:vt add:=gN;obtain⟨f,sv⟩:=bS.open_ hO;refine ab.f (by simp) ⟨_,_,sv.rd 0 rfl (by simp),?_⟩;refine ak.dd (n:=drop.length) (by omega) (λi s u=>s.2=(dk y.es (drop.take i)).map aj.pv/\eQ y.es (drop.take i)/\Ow (Pt r 47 (y.pv f)::L) u) ⟨?_,⟨by simp,by simp⟩,sv⟩ ?_ ?_
 ·have:dk y.es (drop.take 0)=y.es:=List.filter_eq_self.2 λe _=>by simp
  rw[this]
 ·rintro i ⟨g,_⟩ u1 iZ hi ⟨rfl,hd,h1⟩ g_;dsimp only at h1 |-;have hlen:=DU y.es (drop.take i);refine ab.t (by simpa using hi) ?_;refine ak.dd (n:=(dk y.es (drop.take i)).length) (by omega) (λk s u=>∃q:List aj,s.2=q.map aj.pv/\q=((dk y.es (drop.take i)).take k).filter (λe=> !(e.tag == drop[i]))/\Ow (e_ s.1 q.length 12::Pt r 47 (y.pv f)::L) u) ⟨[],rfl,by simp,h1.nil (.inl rfl)⟩ ?_ ?_
  ·rintro k ⟨g2,_⟩ u2 AO eK ⟨q,rfl,hq,h2⟩ lM;have hql:q.length<=k:=by rw[hq];exact le_trans (List.length_filter_le _ _) (by rw[length_take];omega)
   refine ab.t (by simpa using eK) ⟨by omega,_,aC eK,_,rfl,by omega,_,aC hi,_,rfl,ab.mk (λaQ=>?_) (λhe=>?_)⟩
   ·have aQ:((dk y.es (drop.take i))[k].tag == drop[i])=false:=by simpa using aQ
    refine⟨by omega,_,aC eK,_,_,_,_,_,_,_,_,_,_,_,_,rfl,?_⟩;refine h2.app (by simp) (by simp;omega) (by simp;omega) λg3 u3 h3=>lM _ _ ⟨q++[(dk y.es (drop.take i))[k]],by rw[map_append];rfl,?_,by rw[length_append];exact h3⟩;rw[jh eK,List.filter_append,<- hq];simp[aQ]
   ·have he:((dk y.es (drop.take i))[k].tag == drop[i])=true:=by simpa using he
    refine lM _ _ ⟨q,rfl,?_,h2⟩;rw[jh eK,List.filter_append,<- hq];simp[he]
  ·rintro⟨g2,_⟩ u2 AO ⟨q,rfl,hq,h2⟩;rw[take_length,tL hi]at hq;subst hq;refine ab.f (by simp) (ab.mk (λhe=>?_) (λaQ=>?_))
   ·have he:(dk y.es (drop.take (i+1))).length=(dk y.es (drop.take i)).length:=by simp only[length_map,beq_iff_eq]at he;omega
    exact same (.none gN (KC hi he)) (bS.shut (f:=f) h2.drop)
   ·have aQ:(dk y.es (drop.take (i+1))).length≠(dk y.es (drop.take i)).length:=by simp only[length_map,beq_eq_false_iff_ne,ne_eq]at aQ;omega
    exact g_ _ _ ⟨rfl,FH hi hd aQ,h2.drop⟩
 rintro⟨g,_⟩ u1 iZ ⟨rfl,hd,h1⟩;rw[take_length]at hd;dsimp only at h1 |-;rw[take_length];have hlen:=DU y.es drop;refine ab.f (by simp) (lZ.c ?_);refine Ow.Td h1 (by simp;omega) (by simp;omega) λg1 u2 h2=>⟨_,_,rfl,?_⟩;rw[length_map]at h2;rw[nil_append];refine ak.dd (n:=add.length) (by omega) (λi s u=>s.2=(dk y.es drop++add.take i).map aj.pv/\eL y.es (add.take i) drop/\Ow (e_ s.1 ((dk y.es drop).length+i) 12::Pt r 47 (y.pv f)::L) u) ⟨by simp,⟨by simp,by simp⟩,h2⟩ ?_ ?_
 ·rintro i ⟨g2,_⟩ u3 QD hi ⟨rfl,ha,h3⟩ Fh;dsimp only at h3 |-;refine ab.t (by simpa using hi) ?_;refine ak.each (n:=(dk y.es drop++add.take i).length) (by simp;omega) (λk u=>(∀e∈(dk y.es drop++add.take i).take k,e.tag≠add[i].tag)/\u=u3) ⟨by simp,rfl⟩ ?_ ?_
  ·rintro k u4 aci hk4 ⟨cQ,rfl⟩ Y_;refine ab.t (decide_eq_true (by rw[length_map];exact Int.ofNat_lt.2 hk4)) ⟨by omega,_,aC hk4,_,rfl,by omega,_,aC hi,_,rfl,ab.mk (λhe=>?_) (λaQ=>Y_ _ ⟨λe he=>?_,rfl⟩)⟩
   ·have he:(dk y.es drop++add.take i)[k].tag=add[i].tag:=by simpa using he
    exact same (.there gN hd (OR hi ⟨_,getElem_mem hk4,he⟩)) (bS.shut (f:=f) h3.drop)
   ·rcases(dO hk4).1 he with he|rfl
    ·exact cQ e he
    ·simpa using aQ
  ·rintro u4 aci ⟨cQ,rfl⟩;rw[take_length]at cQ;refine ab.f (by simp) ⟨by omega,_,aC hi,_,_,_,_,_,_,_,_,_,_,_,_,rfl,?_⟩;refine h3.app (by simp;omega) (by simp;omega) (by simp;omega) λg3 u5 h5=>Fh _ _ ⟨?_,IG hi ha cQ,h5⟩;rw[jh hi,<- append_assoc,map_append (l₂:=[add[i]])];rfl
 rintro⟨g2,_⟩ u3 QD ⟨rfl,ha,h3⟩;rw[take_length]at ha;dsimp only at h3 |-;rw[take_length];have jq:=ZN h.ne ha;obtain⟨l',zb,tB⟩:=abO jq;have hNE:=VH zb tB;have Ty:(dk y.es drop++add).length<=100000:=by rw[length_append];omega
 refine ab.f (by simp) ?_;dsimp only[nP,nn,aN];refine h3.drop.st 0 rfl (by simp) λu4 h4=>?_;have h5:Ow (bS r ⟨y.B,y.M,y.ps,dk y.es drop++add,y.tk,y.mo⟩::L) u4:=bS.shut (x:=⟨y.B,y.M,y.ps,dk y.es drop++add,y.tk,y.mo⟩) (f:=(f.1,g2,f.2.2.1,f.2.2.2)) h4;have zF:(∃p∈y.ps,dj y.B (dk y.es drop++add) p.conds)↔∃p∈y.ps,dj y.B l' p.conds:=by
  constructor
  ·rintro⟨p,hp,ho⟩;exact⟨p,hp,(s_ tB).2 ho⟩
  ·rintro⟨p,hp,ho⟩;exact⟨p,hp,(s_ tB).1 ho⟩
 have jO:=GQ tB y.ps;have back:∀{u:Mem} {e:Int},Ow (bS r ⟨y.B,y.M,y.ps,dk y.es drop++add,y.tk,y.mo⟩::L) u->e≠0->mg y.B y.M y.es y.ps add drop e y.es->ab ((e:Int) != 0) (nP (some ⟨r,0,none⟩) λS_ QA=>stM S_ (QA+3) [.list 12 f.2.1 (y.es.map aj.pv)] u λNb=>K (pI e) Nb) (K (pI e) u):=λhu he hc=>by
  obtain⟨f',h6⟩:=bS.open_ hu;refine ab.t (by simpa using he) ?_;dsimp only[nP,nn,aN];refine h6.st 0 rfl (by simp) λu5 h7=>same hc (bS.shut (f:=(f'.1,f.2.1,f'.2.2.1,f'.2.2.2)) h7)
 refine SR (x:=⟨y.B,y.M,y.ps,dk y.es drop++add,y.tk,y.mo⟩) h.b h.Gt h.GC Ty jq h5 (λho u5 h6=>⟨_,rfl,back h6 (by omega) (.dN gN hd ha l' hNE (zF.1 ho))⟩) (λho hs u5 h6=>⟨_,rfl,back h6 (by omega) (.dZ gN hd ha l' hNE (λhc=>ho (zF.2 hc)) (by rw[jO];exact hs))⟩) (λho hs u5 h6=>⟨_,rfl,ab.f rfl (hk 0 l' _ _ (.ok gN hd ha l' hNE (λhc=>ho (zF.2 hc)) (by rw[jO];exact hs)) (h.chg Ty jq ho hs) rfl rfl rfl tB h6)⟩)
end
def Ma(ps:List Prod)(n:Nat):Prop:=ps.length<=n/\∀p∈ps,HB p
theorem SJ(f1 f2:Fl)(ps:List Prod)(es:List aj):au prog 36 [.list 3 f1 (ps.map Prod.pv),.list 12 f2 (es.map aj.pv)] λv=>∃q:Bool,v=pB q/\(q=true->Ma ps 6/\es.length<=30):=by
 refine au.of (rU.c ?_);refine(Iv f1 ps 6 (by omega)).call ?_;rintro _ ⟨q,rfl,hq⟩;refine⟨_,rfl,ab.mk (λhf=>?_) (λ_=>⟨false,rfl,λh=>by cases h⟩)⟩;refine(VT f2 es 30 (by omega)).call ?_;rintro _ ⟨q2,rfl,Mj⟩;exact⟨_,rfl,_,rfl,λht=>⟨hq (nb hf),Mj ht⟩⟩
theorem mg.Sc{B M:Int}{es:List aj}{ps:List Prod}{add:List aj}{drop:List Int}{e:Int}{pf:List aj}(h:mg B M es ps add drop e pf):∀x∈pf,x∈add\/x∈es:=by
 intro x hx;cases h with
 |ok _ _ _ _ h4=>rcases(h4.2 x).1 hx with h|⟨h,_⟩
                 ·exact .inl h
                 ·exact .inr h
 |_=>exact .inr hx
theorem mg.ah0{B M:Int}{es:List aj}{ps:List Prod}{add:List aj}{drop:List Int}{e:Int}{pf:List aj}(h:mg B M es ps add drop e pf)(hv:∀x∈es,j_ x=true):∀x∈pf,j_ x=true:=by
 intro x hx;cases h with
 |ok hg _ _ _ h4=>rcases(h4.2 x).1 hx with h|⟨h,_⟩
                  ·exact(hg x h).1
                  ·exact hv x h
 |_=>exact hv x hx
theorem Hs{α:Type}[DecidableEq α]:∀{l m:List α},l.Nodup->(∀x∈l,x∈m)->l.length<=m.length
 |[],_,_,_=>Nat.zero_le _
 |a::l,m,h,hs=>by
  obtain⟨h1,h2⟩:=List.nodup_cons.1 h
  have ha:=hs a (by simp);have h3:=Hs (m:=m.erase a) h2 λx hx=>(List.mem_erase_of_ne (λe:x=a=>h1 (by rw[<- e];exact hx))).2 (hs x (by simp[hx]));rw[List.length_erase_of_mem ha]at h3;have:=List.length_pos_of_mem ha;simp only[length_cons];omega
theorem mg.len{B M:Int}{es:List aj}{ps:List Prod}{add:List aj}{drop:List Int}{e:Int}{pf:List aj}(hu:b_ aw aG es)(h:mg B M es ps add drop e pf):pf.length<=es.length+add.length:=by
 have h1:=GJ (h.up hu);have h2:pf.length<=(es++add).length:=by
  classical
  refine Hs h1 λx hx=>?_;rcases h.Sc x hx with h|h
  ·simp[h]
  ·simp[h]
 rwa [length_append]at h2
theorem qW.mem{B M:Int}{es:List aj}{ps:List Prod}{p:Prod}{e:Int}{Gs:List Prod}(h:qW B M es ps p e Gs):∀q∈Gs,q=p\/q∈ps:=by
 intro q hq;cases h with
 |ok=>rcases(bh cJ).1 hq with h|⟨h,_⟩
      ·exact .inl h
      ·exact .inr h
 |_=>exact .inr hq
theorem VW(f1 f2:Fl){ps:List Prod}{m:Nat}(hm:m<=20)(hp:Ma ps m)(es:List aj)(he:es.length<=40){L:List aR}{μ:Mem}(hO:Ow L μ){K:Kq}
  (hk:∀n r x nT oa y μ',x.T=200->x.M=400->(∀e∈nT,(1<=e.tag/\e.tag<=40)/\j_ e=true)->nT.length<=40->(∀p∈oa,p∈ps)->CV x nT oa y->Ow (gB n x nT oa 20::bS r y::L) μ'->K (.az [pP n 0,pP r 0]) μ'):
  aa prog 22 [.list 3 f1 (ps.map Prod.pv),.list 12 f2 (es.map aj.pv)] μ K:=by
 obtain⟨oA,Mk⟩:=hp;refine qR.c ?_;refine XC 200 400 hO (λh=>absurd (by omega) h) λ_ n x u hT hM h1=>⟨_,_,rfl,ab.f rfl (ab.f rfl ?_)⟩;intro r hr;have h2:=h1.new 47 (po.pv ⟨200,400,[],[],[],[]⟩ (.nil,.nil,.nil,.nil)) hr;have hy:jW ⟨200,400,[],[],[],[]⟩:=⟨show(1:Int)<=200/\(200:Int)<=1024 by omega,show(400:Int)<=1024 by omega,Pairwise.nil,by simp,by simp,by simp,Pairwise.nil,rfl,rfl,by simp,by simp[cS]⟩;have h3:Ow (gB n x [] [] 0::bS r ⟨200,400,[],[],[],[]⟩::L) _:=Ow.swap (bS.shut (x:=⟨200,400,[],[],[],[]⟩) h2);refine ak.each (n:=ps.length) (by omega) (λi u=>∃oa y,CV x [] oa y/\(∀q∈oa,q∈ps)/\Ow (gB n x [] oa i::bS r y::L) u) ⟨[],_,⟨hy,hT.symm,hM.symm,rfl,Pairwise.nil,Perm.refl _⟩,by simp,h3⟩ ?_ ?_
 ·rintro i u1 next hi ⟨oa,y,hb,ke,h4⟩ av
  have hpi:=Mk _ (getElem_mem hi);obtain⟨q1,q2,q3⟩:=hpi;have NV:y.ps.length<=i:=by
   rw[hb.ps];obtain⟨_,_,_,_,_,_,_,⟨hR,_⟩,_⟩:=gB.open_ h4;exact hR.JL
  have aav:∀{u:Mem} {F:Kq},Ow (gB n x [] oa i::bS r y::L) u->(∀e u',(∀{F2:Kq},(∀u2,(∃oa y,CV x [] oa y/\(∀q∈oa,q∈ps)/\Ow (gB n x [] oa (i+1)::bS r y::L) u2)->F2 (pI e) u2)->aa prog 42 [pP r 0,.agg [pS ps[i].name,.list 7 .sh (ps[i].conds.map ae.pv),.list 19 .sh (ps[i].bk.map cT.pv)]] u' F2)->F (pI e) u')->aa prog 41 [pP n 0,.agg [pS ps[i].name,.list 7 .sh (ps[i].conds.map ae.pv),.list 19 .sh (ps[i].bk.map cT.pv)]] u F:=λ{u F} hu hF=>by
   refine XE (by omega) .sh .sh ps[i] q1 (by omega) (by omega) hu λe ps2 u2 CD h5=>hF e u2 λ{F2} RV=>?_;refine aan hb.ok (by omega) .sh .sh ps[i] q1 (by omega) (by omega) (Ow.swap h5) λe' ps3 y' u3 adG YY hB' hM' ahe YW h6=>?_;have adF:qW x.T x.M [] oa ps[i] e' ps3:=by
    have:=adG.perm hb.es;rw[hb.B,hb.M,hb.ps]at this;exact this
   obtain⟨rfl,rfl⟩:=CD.uniq adF;refine RV u3 ⟨ps2,y',⟨YY,hB'.trans hb.B,hM'.trans hb.M,YW,hb.up,by rw[ahe];exact hb.es⟩,λq hq=>?_,Ow.swap h6⟩;rcases CD.mem q hq with rfl|hq
   ·exact getElem_mem hi
   ·exact ke q hq
  have cp:=KN .sh .sh ps[i] ⟨q1,q2,q3⟩;have ne:∀e:Int,((e != e):Bool)=false:=λe=>by simp
  refine ab.t (by simpa using hi) ⟨by omega,_,aC hi,_,_,_,_,_,rfl,by omega,_,aC hi,⟨_,_,_,_,_,rfl,cp.call ⟨_,_,_,_,_,rfl,aav h4 λe u2 CD=>⟨_,rfl,cp.call ⟨_,_,_,_,_,rfl,CD λu3 hI=>⟨_,rfl,ab.f (ne _) (av _ hI)⟩,trivial⟩,trivial⟩,trivial⟩,trivial⟩,cp.call ⟨_,_,_,_,_,rfl,⟨_,_,_,_,_,rfl,aav h4 λe u2 CD=>⟨_,rfl,cp.call ⟨_,_,_,_,_,rfl,CD λu3 hI=>⟨_,rfl,ab.f (ne _) (av _ hI)⟩,trivial⟩,trivial⟩,trivial⟩,aav h4 λe u2 CD=>⟨_,rfl,_,_,_,_,_,rfl,cp.call ⟨_,_,_,_,_,rfl,CD λu3 hI=>⟨_,rfl,ab.f (ne _) (av _ hI)⟩,trivial⟩,trivial⟩,trivial⟩,trivial⟩
 ·rintro u1 next ⟨oa,y,hb,ke,h4⟩
  have h4':Ow (gB n x [] oa 20::bS r y::L) u1:=by
   obtain⟨T,ms,ids,tk,ct,fr,mn,⟨hR,mV⟩,h5⟩:=gB.open_ h4;exact gB.shut (hR.mono (by omega) λ_ h=>h) mV h5
  refine ab.f (by simp) ?_;refine ak.each (n:=es.length) (by omega) (λi u=>∃nT y,CV x nT oa y/\(∀e∈nT,(1<=e.tag/\e.tag<=(i:Int))/\j_ e=true)/\nT.length<=i/\Ow (gB n x nT oa 20::bS r y::L) u) ⟨[],y,hb,by simp,by simp,h4'⟩ ?_ ?_
  ·rintro i u2 AO hi ⟨nT,y2,qv,YO,tB,h5⟩ lM;have ew:wrap .i64 (((i:Nat):Int)+1)=((i+1:Nat):Int):=by rw[aD (by omega) (by omega)];rfl
   have NV:y2.es.length<=i:=by rw[<- qv.es.length_eq];exact tB
   let e0:aj:={es[i]with tag:=((i+1:Nat):Int)};have chg:∀{u:Mem} {F:Kq},Ow (gB n x nT oa 20::bS r y2::L) u->(∀e u',(∀{F2:Kq},(∀u2,(∃nT y,CV x nT oa y/\(∀e∈nT,(1<=e.tag/\e.tag<=((i+1:Nat):Int))/\j_ e=true)/\nT.length<=i+1/\Ow (gB n x nT oa 20::bS r y::L) u2)->F2 (pI e) u2)->aa prog 40 [pP r 0,.list 12 .nr ([e0].map aj.pv),.list 1 .nil (([]:List Int).map gq)] u' F2)->F (pI e) u')->aa prog 39 [pP n 0,.list 12 .nr ([e0].map aj.pv),.list 1 .nil (([]:List Int).map gq)] u F:=λ{u F} hu hF=>by
    refine It (by omega) .nr .nil [e0] [] (by simp) (by simp) (by simp;omega) (λe he=>by simp only[mem_singleton]at he;subst he;show((i+1:Nat):Int)<_;omega) hu λe es2 u3 hc h6=>hF e u3 λ{F2} RV=>?_;refine OJ qv.ok .nr .nil [e0] [] (by simp) (by simp) (by simp;omega) (Ow.swap h6) λe' l y' u4 su YY hB' hM' YW Xd h7=>?_;rw[qv.B,qv.M,qv.ps]at su;obtain⟨rfl,agN⟩:=hc.same qv.es su;refine RV u4 ⟨es2,y',⟨YY,hB'.trans qv.B,hM'.trans qv.M,YW.trans qv.ps,hc.up qv.up,agN.trans Xd⟩,λe he=>?_,?_,Ow.swap h7⟩
    ·refine⟨?_,hc.ah0 (λe he=>(YO e he).2) e he⟩;rcases hc.Sc e he with h|h
     ·simp only[mem_singleton]at h;subst h;show 1<=((i+1:Nat):Int)/\_;exact⟨by omega,Int.le_refl _⟩
     ·have:=(YO e h).1;omega
    ·have:=hc.len qv.up;simp at this;omega
   have ne:∀e:Int,((e != e):Bool)=false:=λe=>by simp
   refine ab.t (by simpa using hi) ⟨by omega,_,aC hi,_,_,_,_,_,_,_,_,_,_,_,_,rfl,?_⟩;rw[ew]at lM |-;exact⟨⟨chg h5 λe u3 hc=>⟨_,rfl,⟨hc λu4 hI=>⟨_,rfl,ab.f (ne _) (lM _ hI)⟩,trivial⟩,trivial⟩,⟨chg h5 λe u3 hc=>⟨_,rfl,hc λu4 hI=>⟨_,rfl,ab.f (ne _) (lM _ hI)⟩,trivial⟩,trivial⟩,trivial⟩,chg h5 λe u3 hc=>⟨_,rfl,⟨hc λu4 hI=>⟨_,rfl,ab.f (ne _) (lM _ hI)⟩,trivial⟩,trivial⟩,trivial⟩
  ·rintro u2 AO ⟨nT,y2,qv,YO,tB,h5⟩;exact ab.f (by simp) (hk n r x nT oa y2 u2 hT hM (λe he=>⟨by have:=(YO e he).1;omega,(YO e he).2⟩) (by omega) ke qv h5)
theorem Lr(u:Mem):aa prog 19 [] u λv u'=>∃x,v=(pB x)/\wk (pB x)=pB true:=Sq.call ⟨_,rfl,rfl⟩
theorem gB.facts{n:Nat}{x:NC}{es:List aj}{ps:List Prod}{w:Nat}{L:List aR}{μ:Mem}(h:Ow (gB n x es ps w::L) μ):((cS es ps:Nat):Int)<=x.M/\x.M<=1024/\b_ aw aG es/\b_ bE jJ ps/\(∀q∈ps,qL q)/\ps.length<=w:=by
 obtain⟨_,_,_,_,_,_,_,⟨hR,hs⟩,_⟩:=gB.open_ h;exact⟨hs,hR.mb.2,hR.core.use.inv.wC,hR.Jo,hR.Gt,hR.JL⟩
theorem AR{es:List aj}(hn:Cv es)(p:Prod):(mi es p).length=(aE es p.conds).length:=by unfold mi;rw[length_map,rb (lj hn _)]
theorem BP{es:List aj}(hn:Cv es)(ps:List Prod):(allM es ps).length=cS es ps:=by
 unfold allM cS;rw[List.length_flatMap];congr 1;exact List.map_congr_left λp _=>AR hn p
theorem NO{es:List aj}(hn:Cv es){p:Prod}(hp:qL p):∀m∈mi es p,m.tags.length<=1000:=by
 intro m hm;obtain⟨t,ht,rfl⟩:=mem_map.1 hm;have ht:=((jG (lj hn p.conds)).2 t).1 ht;rw[<- mz]at ht;obtain⟨q,hq,rfl⟩:=mem_map.1 ht;have h1:=pQ (es:=es) (l:=p.conds) (ts:=[Cr]) (m:=0) (by simp[Cr]) q hq;obtain⟨_,_,_,g4,_⟩:=hp.facts;have:=cK p.conds;show q.tags.length<=1000;omega
theorem Ef{es:List aj}(hn:Cv es){ps:List Prod}(hp:∀q∈ps,qL q):∀m∈allM es ps,m.tags.length<=1000000000:=by
 intro m hm;obtain⟨p,h1,h2⟩:=List.mem_flatMap.1 hm;have:=NO hn (hp p h1) m h2;omega
section
variable {n:Nat} {x:NC} {es:List aj} {ps:List Prod} {w:Nat}
theorem XH(hw:w<=1000){L:List aR}{μ:Mem}(hO:Ow (gB n x es ps w::L) μ){F:Kq}(hk:∀f μ',Ow (gB n x es ps w::L) μ'->F (.list 2 f ((allM es ps).map Mt.pv)) μ'):aa prog 23 [Qj n] μ F:=by
 obtain⟨h1,h2,h3,_⟩:=gB.facts hO;exact KK (l:=allM es ps) (EC hw) (by rw[BP (ym h3)];omega) hO hk
theorem WB(f g:Fl){L:List aR}{μ:Mem}(hO:Ow (gB n x es ps w::L) μ){l:List Mt}(e:allM es ps=l){F:Kq}(hF:F (pB true) μ):aa prog 29 [.list 2 f ((allM es ps).map Mt.pv),.list 2 g (l.map Mt.pv)] μ F:=by
 obtain⟨h1,h2,h3,_,h5,_⟩:=gB.facts hO;have hl:=BP (ym h3) ps;exact(Ax f g _ _ (by omega) (Ef (ym h3) h5)).call (λ_=>hF) (λaQ=>absurd e aQ)
end
theorem JY{α:Type}(f:α->Nat):∀{l:List α} {a:α},a∈l->f a<=(l.map f).sum
 |x::l,a,h=>by
  rw[map_cons,sum_cons]
  rcases mem_cons.1 h with rfl|h
  ·omega
  ·have:=JY f h;omega
def ofM(es:List aj)(ps:List Prod)(s:ByteArray):List Mt:=match aL bE jJ s ps with
 |some q=>mi es q
 |none=>[]
@[reducible] def Yq(n:Nat)(s:ByteArray):PV:=.fn (.func 74) [] [.bj [pP n 0] 0,.bj [pS s] 0]
theorem aib(n:Nat)(s:ByteArray):Pure prog 24 [pP n 0,pS s] (Yq n s):=au.of (CS.c rfl)
@[reducible] def ah4(f1 f2 f3:Fl)(T:Tree)(q:Prod):List PV:=[pS q.name,.list 7 f1 (q.conds.map ae.pv),.list 19 f2 (q.bk.map cT.pv),.list 1 f3 ((dE T.B q.conds).map λb=>[pP b 0])]
section
variable {n:Nat} {x:NC} {es:List aj} {ps:List Prod} {w:Nat}
theorem Ya(hw:w<=1000)(s:ByteArray):F_ prog (Yq n s) ((ofM es ps s).map λm=>[.agg m.pv]) (gB n x es ps w):=by
 refine F_.mk λfy ya yb J S μ hy hO cO=>?_;show aa _ _ [.fn fy ya yb,.bj [pP n 0] 0,.bj [pS s] 0] _ _;obtain⟨T,ms,ids,tk,ct,fr,mn,⟨hR,mV⟩,h1⟩:=gB.open_ hO;have oA:ps.length<=1000:=le_trans hR.JL hw;have shut:∀{u:Mem} {M:List aR},Ow (fQ n x es ms ids T tk ct fr mn ps M) u->Ow (gB n x es ps w::M) u:=λh=>gB.shut hR mV h;refine zo.c ⟨λz u=>(z.2=true/\∃q b f1 f2 f3,aL bE jJ s ps=some q/\z.1=some ⟨b,0,none⟩/\Ow (fQ n x es ms ids T tk ct fr mn ps [Pt b 129 (ah4 f1 f2 f3 T q),J 0]) u)\/(z.2=false/\aL bE jJ s ps=none/\Ow (fQ n x es ms ids T tk ct fr mn ps [J 0]) u),?_,?_⟩
 ·refine⟨_,rfl,_,aJ (an.xp (x:=x) (es:=es) (ms:=ms) (ids:=ids) h1 (by simp)) (by simp),_,rfl,?_,?_⟩
  ·refine RP.gO (Ow.at 2 rfl h1) hR.u (by rw[length_map];omega) s (λy u hy h3=>?_) (λu hy h3=>?_)
   ·rw[sw]at hy;obtain⟨q,hq,rfl⟩:=Option.map_eq_some_iff.1 hy;refine⟨_,_,_,_,_,_,_,_,rfl,λb4 Gz=>?_⟩;refine(h3.new _ _ Gz).st 0 rfl (by simp) λu4 h4=>.inl ⟨rfl,q,b4,_,_,_,hq,rfl,Ow.ord [2,2,1,1,0,0] h4⟩
   ·rw[sw]at hy;refine⟨_,_,_,_,_,_,_,_,rfl,λb4 Gz=>?_⟩;refine(h3.new _ _ Gz).st 0 rfl (by simp) λu4 h4=>.inr ⟨rfl,Option.map_eq_none_iff.1 hy,Ow.ord [1,1,0,0,0] h4.drop⟩
  ·intro b4 Gz;have h2:=Ow.ord [1,1,1,1,0,0] (h1.new 129 [pS ⟨#[]⟩,.list 7 .nil [],.list 19 .nil [],.list 1 .nil []] Gz);refine RP.gO (Ow.at 2 rfl h2) hR.u (by rw[length_map];omega) s (λy u hy h3=>?_) (λu hy h3=>?_)
   ·rw[sw]at hy;obtain⟨q,hq,rfl⟩:=Option.map_eq_some_iff.1 hy;refine⟨_,_,_,_,_,_,_,_,rfl,?_⟩;refine h3.st 4 rfl (by simp) λu4 h4=>.inl ⟨rfl,q,b4,_,_,_,hq,rfl,Ow.ord [1,1,0,0,0,0] h4⟩
   ·rw[sw]at hy;refine⟨_,_,_,_,_,_,_,_,rfl,?_⟩;refine h3.st 4 rfl (by simp) λu4 h4=>.inr ⟨rfl,Option.map_eq_none_iff.1 hy,(Ow.ord [1,1,0,0,0,0] h4).tail λ_ h=>h.tail λ_ h=>h.tail λ_ h=>h.tail λ_ h=>h.drop⟩
 ·rintro⟨_,_⟩ u (⟨rfl,q,b,f1,f2,f3,hq,rfl,h2⟩|⟨rfl,cQ,h2⟩)
  ·have e:ofM es ps s=mi es q:=by unfold ofM;rw[hq]
   obtain⟨hqm,hqn⟩:=(a_ cJ hR.Jo).1 hq;have hqn:q.name=s:=hqn;have aI:=hR.Gt _ hqm;have hD:=hR.pD _ hqm;have Bi:=hR.len hD;refine ab.f rfl ⟨_,rfl,?_⟩;dsimp only[nP,nn,aN];refine⟨_,_,_,_,_,_,_,h2.rd 4 rfl (by simp),?_⟩;refine cOf s hR.tags aI hD (hR.core.dN.tok _ hD) Bi _ _ _ (Ow.ord [1] h2) λf u3 h3=>⟨_,_,rfl,?_⟩;have aQ:=lj (ym hR.core.use.inv.wC) q.conds;have Zb:((iY (aE es q.conds)).map λt=>(⟨s,t.tags⟩:Mt))=ofM es ps s:=by rw[e,<- hqn];rfl
   rw[Zb];have ac5:(ofM es ps s).length<=1024:=by rw[e];unfold mi;rw[length_map,rb aQ];exact Bi
   have h4:Ow (fQ n x es ms ids T tk ct fr mn ps [J 0]) u3:=(Ow.ord [1,0,0,0,0,0] h3).tail λ_ h=>h.tail λ_ h=>h.tail λ_ h=>h.tail λ_ h=>h.drop;refine ak.each (n:=(ofM es ps s).length) (by omega) (λk u=>Ow (fQ n x es ms ids T tk ct fr mn ps [J k]) u) h4 ?_ ?_
   ·rintro k u4 next hk h4 av
    refine ab.t (by simpa using hk) ⟨by omega,_,aC hk,_,_,_,rfl,?_⟩;have fC:∀ν,J k ν->bJ prog (.fn fy ya yb) [.agg (ofM es ps s)[k].pv] ν λv μ'=>(v=pB true/\Ow [J (k+1)] μ')\/(v=pB false/\Ow [S] μ'):=λν hν=>by
     have h:=cO k (by rw[length_map];exact hk) ν hν;rw[getElem_map]at h;exact h
    refine Ow.yQ (Ow.ord [4] h4) fC λv u5 h5=>?_;rcases h5.sR with⟨rfl,h6⟩|⟨rfl,h6⟩
    ·exact⟨_,rfl,ab.f rfl (av _ (Ow.ord [1,1,1,1,0] h6))⟩
    ·exact⟨_,rfl,ab.t rfl (.inr (shut (Ow.ord [1,1,1,1,0] h6)))⟩
   ·rintro u4 next h4
    refine ab.f (by simp) (.inl ?_);rw[length_map];exact shut h4
  ·have e:ofM es ps s=[]:=by unfold ofM;rw[cQ]
   rw[e];exact ab.t rfl (.inl (shut h2))
theorem aic(hw:w<=1000)(s:ByteArray){L:List aR}{μ:Mem}(hO:Ow (gB n x es ps w::L) μ){F:Kq}(hk:∀f μ',Ow (gB n x es ps w::L) μ'->F (.list 2 f ((ofM es ps s).map Mt.pv)) μ'):aa prog 23 [Yq n s] μ F:=by
 obtain⟨h1,h2,h3,h4,_⟩:=gB.facts hO;refine KK (l:=ofM es ps s) (Ya hw s) ?_ hO hk;unfold ofM;cases hq:aL bE jJ s ps with
 |none=>simp
 |some q=>
  show(mi es q).length<=_;rw[AR (ym h3)];have hm:=((a_ cJ h4).1 hq).1;have:(aE es q.conds).length<=cS es ps:=by
   unfold cS;exact JY (λq:Prod=>(aE es q.conds).length) hm
  omega
end
section
variable {n r:Nat} {x:NC} {es:List aj} {ps:List Prod} {w:Nat} {y:po}
theorem OM(hw:w<=1000)(hb:CV x es ps y){L:List aR}{u:Mem}(h:Ow (gB n x es ps w::bS r y::L) u){F:Kq}(hF:∀u',Ow (gB n x es ps w::bS r y::L) u'->F (pB true) u'):
  aa prog 43 [pP n 0,pP r 0] u F:=by
 refine uj.c ?_;refine⟨(SF n).call ⟨_,_,_,rfl,XH hw h λf u1 h1=>⟨_,_,rfl,XI hb.ok (Ow.swap h1) λg u2 h2=>⟨_,_,rfl,?_,trivial⟩,trivial⟩,trivial⟩,trivial⟩;refine WB _ _ (Ow.swap h2) hb.all.symm ⟨_,rfl,ab.t rfl ?_⟩;have heq:∀a:Nat,a=y.ps.length->(((a:Nat):Int) == (((y.ps.map Prod.pv).length:Nat):Int))=true:=λa e=>by rw[e,length_map];simp
 obtain⟨f1,h3⟩:=bS.open_ h2;refine⟨⟨_,_,h3.rd 0 rfl (by simp),XD (Ow.swap h2) λu3 h4=>⟨_,rfl,?_⟩,trivial⟩,XD (Ow.swap h2) λu3 h4=>⟨_,rfl,?_⟩,trivial⟩
 ·rw[heq _ (by rw[hb.ps])];exact hF _ h4
 ·obtain⟨f2,h5⟩:=bS.open_ (Ow.swap h4);refine⟨_,_,h5.rd 0 rfl (by simp),?_⟩;rw[heq _ (by rw[hb.ps])];exact hF _ h4
end
abbrev sL:TypeId:=60
abbrev gS:TypeId:=149
abbrev dJ:TypeId:=28
theorem Ju(l:List Sym):∀r∈l.map Sym.pv,r.length=3:=Ar (pv:=Sym.pv) (λ_=>rfl) l
theorem LA(l:List Sym):aU (l.map Sym.pv).flatten=true:=ri (pv:=Sym.pv) (λ_=>rfl) l
def MW(d:Bool)(l:List Sym)(q:PV):aR:=λμ=>bif d then cA sL 3 q (l.map Sym.pv) μ else q=.list 3 .sh (l.map Sym.pv)
@[reducible] def o_(x:Test×PV):List PV:=[pI x.1.rel,pS x.1.var,pI x.1.sym.k,pS x.1.sym.t,pI x.1.sym.n,x.2]
def rA(d:Bool)(x:Test×PV):aR:=MW d x.1.list x.2
def eg(d:Bool)(l:List Test)(p:PV):aR:=λμ=>∃X:List (Test×PV),X.map (·.1)=l/\(∀x∈X,x.2.cell=true)/\Ow (cA gS 6 p (X.map o_)::X.map (rA d)) μ
@[reducible] def fS(x:ae×PV×PV×PV):List PV:=[pI x.1.kind,pB x.1.goal,pS x.1.id,x.2.1,x.2.2.1,pB x.1.acc,x.2.2.2]
def fB(d:Bool):Nat->List ae->PV->aR
 |0,l,p=>λμ=>l=[]/\cA dJ 7 p [] μ
 |n+1,l,p=>λμ=>∃X:List (ae×PV×PV×PV),X.map (·.1)=l/\(∀x∈X,x.2.1.cell=true/\x.2.2.1.cell=true/\x.2.2.2.cell=true)/\
   Ow (cA dJ 7 p (X.map fS)::X.map λx=>Ow [eg d x.1.attr x.2.1,eg d x.1.value x.2.2.1,fB d n x.1.conds x.2.2.2]) μ
def mj(d:Bool)(n:Nat)(x:ae×PV×PV×PV):aR:=Ow [eg d x.1.attr x.2.1,eg d x.1.value x.2.2.1,fB d n x.1.conds x.2.2.2]
theorem TX(X:List (Test×PV)):∀r∈X.map o_,r.length=6:=λr hr=>by obtain⟨x,_,rfl⟩:=mem_map.1 hr;rfl
theorem VM(X:List (ae×PV×PV×PV)):∀r∈X.map fS,r.length=7:=λr hr=>by obtain⟨x,_,rfl⟩:=mem_map.1 hr;rfl
theorem MW.view{d:Bool}{l:List Sym}{q:PV}{ν μ:Mem}(h:MW d l q ν)(hi:Mem.inc ν μ):gy μ q (.list 3 .sh (l.map Sym.pv)):=by
 cases d with
 |false=>rw[show q=_ from h];exact .same _
 |true=>
  obtain⟨F,hv⟩:cA sL 3 q (l.map Sym.pv) ν:=h;exact(hv.view (Ju l) (LA l)).inc hi
theorem eg.view{d:Bool}{l:List Test}{p:PV}{ν μ:Mem}(h:eg d l p ν)(hi:Mem.inc ν μ):gy μ p (.list 6 .sh (l.map Test.pv)):=by
 obtain⟨X,rfl,_,hO⟩:=h;obtain⟨ν1,hv,Pm⟩:=hO.mem _ (mem_cons_self ..);rw[map_map];refine cA.deep (f:=o_) (g:=Test.pv∘Prod.fst) (X:=X) hv (λb o hb=>hi b o (Pm b o hb)) (λx _=>rfl) (λx _=>rfl) (λx _=>rfl) λx hx=>?_;obtain⟨ν2,hs,Kn⟩:=hO.mem (rA d x) (mem_cons_of_mem _ (mem_map.2 ⟨x,hx,rfl⟩));exact dC.cons (.same _) (dC.cons (.same _) (dC.cons (.same _) (dC.cons (.same _) (dC.cons (.same _) (dC.cons (MW.view hs λb o hb=>hi b o (Kn b o hb)) (dC.nil _))))))
theorem fB.view{d:Bool}:∀{n:Nat} {l:List ae} {p:PV} {ν μ:Mem},fB d n l p ν->Mem.inc ν μ->gy μ p (.list 7 .sh (l.map ae.pv))
 |0,l,p,ν,μ,h,hi=>by
  obtain⟨rfl,F,hv⟩:=h
  exact(hv.view (by simp) rfl).inc hi
 |n+1,l,p,ν,μ,h,hi=>by
  obtain⟨X,rfl,_,hO⟩:=h;obtain⟨ν1,hv,Pm⟩:=hO.mem _ (mem_cons_self ..);rw[map_map];refine cA.deep (f:=fS) (g:=ae.pv∘Prod.fst) (X:=X) hv (λb o hb=>hi b o (Pm b o hb)) (λx _=>rfl) (λx _=>by show(ae.pv x.1).length=7;rw[ae.cH];rfl) (λx _=>by show aU (ae.pv x.1)=true;rw[ae.cH];rfl) λx hx=>?_;obtain⟨ν2,hs,Kn⟩:=hO.mem (mj d n x) (mem_cons_of_mem _ (mem_map.2 ⟨x,hx,rfl⟩));have hs:Ow [eg d x.1.attr x.2.1,eg d x.1.value x.2.2.1,fB d n x.1.conds x.2.2.2] ν2:=hs;have fE:∀{κ},Mem.inc κ ν2->Mem.inc κ μ:=λhk b o hb=>hi b o (Kn b o (hk b o hb));obtain⟨κ1,a1,b1⟩:=hs.mem _ (mem_cons_self ..);obtain⟨κ2,a2,b2⟩:=hs.mem _ (mem_cons_of_mem _ (mem_cons_self ..));obtain⟨κ3,a3,b3⟩:=hs.mem _ (mem_cons_of_mem _ (mem_cons_of_mem _ (mem_cons_self ..)));show dC μ (fS x) (ae.pv x.1);rw[ae.cH];exact dC.cons (.same _) (dC.cons (.same _) (dC.cons (.same _) (dC.cons (eg.view a1 (fE b1)) (dC.cons (eg.view a2 (fE b2)) (dC.cons (.same _) (dC.cons (fB.view a3 (fE b3)) (dC.nil _)))))))
theorem eg.open_{d:Bool}{l:List Test}{p:PV}{L:List aR}{μ:Mem}(h:Ow (eg d l p::L) μ):∃X:List (Test×PV),X.map (·.1)=l/\(∀x∈X,x.2.cell=true)/\Ow (cA gS 6 p (X.map o_)::(X.map (rA d)++L)) μ:=by
 obtain⟨X,h⟩:=Ow.ex h;obtain⟨h1,h⟩:=Ow.and h;obtain⟨h2,h⟩:=Ow.and h;exact⟨X,h1,h2,h.nest⟩
theorem eg.shut{d:Bool}{p:PV}{X:List (Test×PV)}{L:List aR}{μ:Mem}(h2:∀x∈X,x.2.cell=true)(h:Ow (cA gS 6 p (X.map o_)::(X.map (rA d)++L)) μ):Ow (eg d (X.map (·.1)) p::L) μ:=
 (Ow.pack (L1:=cA gS 6 p (X.map o_)::X.map (rA d)) h).imp λ_ hν=>⟨X,rfl,h2,hν⟩
theorem fB.open_{d:Bool}{n:Nat}{l:List ae}{p:PV}{L:List aR}{μ:Mem}(h:Ow (fB d (n+1) l p::L) μ):∃X:List (ae×PV×PV×PV),X.map (·.1)=l/\(∀x∈X,x.2.1.cell=true/\x.2.2.1.cell=true/\x.2.2.2.cell=true)/\Ow (cA dJ 7 p (X.map fS)::(X.map (mj d n)++L)) μ:=by
 obtain⟨X,h⟩:=Ow.ex h;obtain⟨h1,h⟩:=Ow.and h;obtain⟨h2,h⟩:=Ow.and h;exact⟨X,h1,h2,h.nest⟩
theorem fB.shut{d:Bool}{n:Nat}{p:PV}{X:List (ae×PV×PV×PV)}{L:List aR}{μ:Mem}(h2:∀x∈X,x.2.1.cell=true/\x.2.2.1.cell=true/\x.2.2.2.cell=true)(h:Ow (cA dJ 7 p (X.map fS)::(X.map (mj d n)++L)) μ):Ow (fB d (n+1) (X.map (·.1)) p::L) μ:=
 (Ow.pack (L1:=cA dJ 7 p (X.map fS)::X.map (mj d n)) h).imp λ_ hν=>⟨X,rfl,h2,hν⟩
theorem PF{d:Bool}{X:List (Test×PV)}{a:Option Addr}{n c:Nat}{L:List aR}{u:Mem}(hO:Ow (cA gS 6 (.raw (.slice a n c)) (X.map o_)::(X.map (rA d)++L)) u)(t:Test)(q:PV)(hq:q.cell=true)(hl:X.length+1<=1000000){L2:List aR}{u2:Mem}(gg:Ow (rA d (t,q)::(cA gS 6 (.raw (.slice a n c)) (X.map o_)::(X.map (rA d)++L))) u2){K:Option Addr->Nat->Nat->Mem->Prop}
  (hk:∀b' c' u3,Ow (cA gS 6 (.raw (.slice b' (X.length+1) c')) ((X++[(t,q)]).map o_)::((X++[(t,q)]).map (rA d)++L)) u3->K b' (X.length+1) c' u3):
  fA 6 80 gS a n c (.list 6 .nr [[pI t.rel,pS t.var,pI t.sym.k,pS t.sym.t,pI t.sym.n,q]]) u2 K:=by
 obtain⟨a1,c1,hp,kg⟩:=cA.app gg.swap (TX X);simp only[PV.raw.injEq,Value.slice.injEq,length_map]at hp;obtain⟨rfl,rfl,rfl⟩:=hp;simp only[length_map]at kg;refine kg (o_ (t,q)) _ _ rfl (by simp only[aU,o_,all_cons,all_nil,hq];rfl) (by omega) (by omega) λb' c' u3 h3=>hk _ c' u3 ?_;have e1:(X++[(t,q)]).map o_=X.map o_++[o_ (t,q)]:=by simp
 have e2:(X++[(t,q)]).map (rA d)++L=X.map (rA d)++rA d (t,q)::L:=by simp
 rw[e1,e2];exact h3.tail λν hν=>Ow.Ls hν
theorem Sg{d:Bool}{n0:Nat}{X:List (ae×PV×PV×PV)}{a:Option Addr}{n c:Nat}{L:List aR}(x:ae×PV×PV×PV)(hq:x.2.1.cell=true/\x.2.2.1.cell=true/\x.2.2.2.cell=true)(hl:X.length+1<=1000000){u2:Mem}(gg:Ow (mj d n0 x::(cA dJ 7 (.raw (.slice a n c)) (X.map fS)::(X.map (mj d n0)++L))) u2){K:Option Addr->Nat->Nat->Mem->Prop}
  (hk:∀b' c' u3,Ow (cA dJ 7 (.raw (.slice b' (X.length+1) c')) ((X++[x]).map fS)::((X++[x]).map (mj d n0)++L)) u3->K b' (X.length+1) c' u3):
  fA 7 112 dJ a n c (.list 7 .nr [fS x]) u2 K:=by
 obtain⟨a1,c1,hp,kg⟩:=cA.app gg.swap (VM X);simp only[PV.raw.injEq,Value.slice.injEq,length_map]at hp;obtain⟨rfl,rfl,rfl⟩:=hp;simp only[length_map]at kg;refine kg (fS x) _ _ rfl (by simp only[aU,fS,all_cons,all_nil,hq.1,hq.2.1,hq.2.2];rfl) (by omega) (by omega) λb' c' u3 h3=>hk _ c' u3 ?_;have e1:(X++[x]).map fS=X.map fS++[fS x]:=by simp
 have e2:(X++[x]).map (mj d n0)++L=X.map (mj d n0)++mj d n0 x::L:=by simp
 rw[e1,e2];exact h3.tail λν hν=>Ow.Ls hν
abbrev sM:TypeId:=66
theorem La(l:List cT):∀r∈l.map cT.pv,r.length=19:=Ar (pv:=cT.pv) (λ_=>rfl) l
theorem MT(l:List cT):aU (l.map cT.pv).flatten=true:=ri (pv:=cT.pv) (λ_=>rfl) l
structure Rw(b o sz:Nat)(A:List PV->aR):Prop where
 rd:∀{row:List PV} {L:List aR} {μ:Mem},row.length=sz->Ow (A row::L) μ->∀k m,k+m<=sz->ay μ b (o+k) m=some ((row.drop k).take m)
 st:∀{row:List PV} {L:List aR} {μ:Mem},row.length=sz->Ow (A row::L) μ->∀(k:Nat) (vs:List PV) (K:Mem->Prop),k+vs.length<=sz->(∀μ',Ow (A (dx row k vs)::L) μ'->K μ')->stM b (o+k) vs μ K
theorem TJ{row vs:List PV}{k:Nat}(h:k+vs.length<=row.length):(dx row k vs).length=row.length:=by
 unfold dx;simp only[length_append,length_take,List.length_drop];omega
theorem Rw.vec{e:TypeId}{sz n c b j:Nat}{rows:Lq}(hr:∀r∈rows,r.length=sz)(hj:j<rows.length):Rw b (0+j*sz) sz λrow=>cA e sz (.raw (.slice (some ⟨b,0,none⟩) n c)) (rows.set j row):=by
 have acN:∀{row:List PV},row.length=sz->∀r∈rows.set j row,r.length=sz:=λhl r h=>by
  rcases List.mem_or_eq_of_mem_set h with h|rfl
  ·exact hr r h
  ·exact hl
 refine⟨λ{row L μ} hl hO k m h=>?_,λ{row L μ} hl hO k vs K h hK=>?_⟩
 ·obtain⟨b',hb,dS,_⟩:=cA.at_ 0 hO rfl (acN hl) (j:=j) (by simpa using hj);simp only[Option.some.injEq,Addr.mk.injEq]at hb;obtain⟨rfl,_⟩:=hb;have:=dS k m h;rw[List.getElem_set_self]at this;exact this
 ·obtain⟨b',hb,_,fC⟩:=cA.at_ 0 hO rfl (acN hl) (j:=j) (by simpa using hj);simp only[Option.some.injEq,Addr.mk.injEq]at hb;obtain⟨rfl,_⟩:=hb;refine fC k vs K h λμ' h'=>hK μ' ?_;rw[List.getElem_set_self,List.set_set]at h';exact h'
def BT{T:Type}(f:T->List PV)(X:List T)(sz i:Nat)(rows:Lq):Prop:=
 rows.length=X.length/\(∀r∈rows,r.length=sz)/\∀(j:Nat) (h:j<X.length),i<=j->rows[j]?=some (f X[j])
theorem BT.start{T:Type}{f:T->List PV}{X:List T}{sz:Nat}(h:∀x,(f x).length=sz):BT f X sz 0 (X.map f):=by
 refine⟨by simp,λr hr=>?_,λj hj _=>by rw[List.getElem?_map,getElem?_eq_getElem hj];rfl⟩;obtain⟨x,_,rfl⟩:=mem_map.1 hr;exact h x
theorem BT.step{T:Type}{f:T->List PV}{X:List T}{sz i:Nat}{rows:Lq}{r:List PV}(h:BT f X sz i rows)(hr:r.length=sz):BT f X sz (i+1) (rows.set i r):=by
 refine⟨by rw[length_set];exact h.1,λr' h'=>?_,λj hj Km=>?_⟩
 ·rcases List.mem_or_eq_of_mem_set h' with h'|rfl
  ·exact h.2.1 r' h'
  ·exact hr
 ·rw[List.getElem?_set_ne (by omega)];exact h.2.2 j hj (by omega)
theorem Nq{q:PV}{l:List Sym}{L:List aR}{u:Mem}(hO:Ow (cA sL 3 q (l.map Sym.pv)::L) u)(hl:l.length<=1000000){body:(Int->Mem->Prop)->Int->Mem->Prop}
  (RG:∀(a:Option Addr) (c:Nat),q=.raw (.slice a l.length c)->∀(k:Nat) (u:Mem) (next:Int->Mem->Prop),k<l.length->(∃rows,Ow (cA sL 3 (.raw (.slice a l.length c)) rows::L) u)->bp a (λb o=>(0:Int)<=k/\(k:Int)<((l.length:Nat):Int)/\stM b (o+toNat (k:Int)*3) [pI 0,pS ⟨#[]⟩,pI 0] u λu'=>next (wrap .i64 ((k:Int)+1)) u')->body next (k:Int) u)
  (RA:∀(a:Option Addr) (c:Nat),q=.raw (.slice a l.length c)->∀(u:Mem) (next:Int->Mem->Prop),Ow L u->(∃rows,Ow (cA sL 3 (.raw (.slice a l.length c)) rows::L) u)->body next (l.length:Int) u):ak body 0 u:=by
 obtain⟨a,c,rfl⟩:=cA.wX hO;rw[length_map]at hO;refine ak.each (n:=l.length) (by omega) (λi u=>∃rows:Lq,rows.length=l.length/\(∀x∈rows,x.length=3)/\Ow (cA sL 3 (.raw (.slice a l.length c)) rows::L) u) ⟨_,by simp,Ju l,hO⟩ ?_ ?_
 ·rintro i u next hi ⟨rows,h1,h2,hO⟩ av
  refine RG a c (by rw[length_map]) i u next hi ⟨rows,hO⟩ ?_
  obtain⟨b,rfl,_,fC⟩:=cA.at_ 0 hO rfl h2 (j:=i) (by omega);refine⟨by omega,by omega,?_⟩;rw[toNat_natCast];refine fC 0 [pI 0,pS ⟨#[]⟩,pI 0] _ (by simp) λu' h=>av _ ⟨_,by rw[length_set];exact h1,λx hx=>?_,h⟩;rcases List.mem_or_eq_of_mem_set hx with h|rfl
  ·exact h2 x h
  ·rw[TJ (by rw[h2 _ (getElem_mem (by omega))];simp)];exact h2 _ (getElem_mem (by omega))
 ·rintro u next ⟨rows,h1,h2,hO⟩
  exact RA a c (by rw[length_map]) u next hO.drop ⟨rows,hO⟩
@[reducible] def yy(b o:Nat):Option Addr:=some ⟨b,o,none⟩
theorem nU{f b o:Nat}{A:List PV->aR}(hA:Rw b o 7 A){row:List PV}(d_:row.length=7){q:PV}(hf:f+1<=7)(hq:(row.drop f).take 1=[q]){l:List Test}(hl:l.length<=100000)(ht:∀t∈l,t.list.length<=100000){L:List aR}{u:Mem}(hO:Ow (A row::eg true l q::L) u){E:Mem->Prop}(hk:∀u',Ow (A row::L) u'->E u'):
  ak (α:=Int) (λnext s u=>
   nn (yy b o)
   (aN (.raw (.pointer (yy b o))) λb o=>
    ∃(x11:Option Addr) (abz afJ:Nat),ay u b (o+f) 1=some [(.raw (.slice x11 abz afJ))]/\
    ab (decide ((s:Int)<((abz:Nat):Int)))
    (ak (α:=Int) (λYE uz qZ=>
      nn (yy b o)
      (aN (.raw (.pointer (yy b o))) λON ND=>
       ∃(x20:Option Addr) (abw afF:Nat),ay qZ ON (ND+f) 1=some [(.raw (.slice x20 abw afF))]/\
       bp x20 λS_ QA=>
       (0:Int)<=s/\s<((abw:Nat):Int)/\
       ∃(x24:Option Addr) (abt afE:Nat),ay qZ S_ ((QA+toNat s*6)+5) 1=some [(.raw (.slice x24 abt afE))]/\
       ab (decide ((uz:Int)<((abt:Nat):Int)))
       (nn (yy b o)
        (aN (.raw (.pointer (yy b o))) λSZ Qz=>
         ∃(x32:Option Addr) (Pw XP:Nat),ay qZ SZ (Qz+f) 1=some [(.raw (.slice x32 Pw XP))]/\
         bp x32 λWb UC=>
         (0:Int)<=s/\s<((Pw:Nat):Int)/\
         ∃(x36:Option Addr) (abp afB:Nat),ay qZ Wb ((UC+toNat s*6)+5) 1=some [(.raw (.slice x36 abp afB))]/\
         bp x36 λb_5 YA=>
         (0:Int)<=uz/\uz<((abp:Nat):Int)/\
         stM b_5 (YA+toNat uz*3) [(pI (0)),(pS ⟨#[]⟩),(pI (0))] qZ λwD=>
         YE (wrap .i64 (uz+(1))) wD))
       (nn (yy b o)
        (aN (.raw (.pointer (yy b o))) λb_6 o_6=>
         ∃(Wu:Option Addr) (Pv XO:Nat),ay qZ b_6 (o_6+f) 1=some [(.raw (.slice Wu Pv XO))]/\
         bp Wu λb_7 o_7=>
         (0:Int)<=s/\s<((Pv:Nat):Int)/\
         stM b_7 (o_7+toNat s*6) [(pI (-1)),(pS ⟨#[]⟩),(pI (0)),(pS ⟨#[]⟩),(pI (0)),(.raw (.slice none 0 0))] qZ λLv=>
         next (wrap .i64 (s+(1))) Lv))))
     (0) u)
    (E u))) 0 u:=by
 obtain⟨X,rfl,hXc,hO⟩:=eg.open_ hO.swap;obtain⟨a,c,rfl⟩:=cA.wX hO;rw[length_map]at hO hl;have sv:Ow (A row::cA gS 6 (.raw (.slice a X.length c)) (X.map o_)::((X.drop 0).map (rA true)++L)) u:=(hO.tail λ_ h=>h.wF).swap;have WW:(row.drop f).take 1=[.raw (.slice a X.length c)]:=by rw[hq,length_map]
 refine ak.each (n:=X.length) (by omega) (λi u=>∃rows,BT o_ X 6 i rows/\Ow (A row::cA gS 6 (.raw (.slice a X.length c)) rows::((X.drop i).map (rA true)++L)) u) ⟨_,BT.start (λ_=>rfl),sv⟩ ?_ ?_
 ·rintro i u next hi ⟨rows,hH,hO⟩ av
  have hdr:X.drop i=X[i]::X.drop (i+1):=List.drop_eq_getElem_cons hi;have Rf:∀{L':List aR} {u':Mem},Ow (A row::L') u'->ay u' b (o+f) 1=some [.raw (.slice a X.length c)]:=λh=>by rw[hA.rd d_ h f 1 hf,WW]
  refine⟨_,_,_,Rf hO,ab.t (by simpa using hi) ?_⟩;have gg:Ow (cA sL 3 X[i].2 (X[i].1.list.map Sym.pv)::A row::cA gS 6 (.raw (.slice a X.length c)) rows::((X.drop (i+1)).map (rA true)++L)) u:=by
   rw[hdr,map_cons,cons_append]at hO;exact(Ow.at 2 rfl hO).imp λν hν=>hν
  have hri:rows[i]?=some (o_ X[i]):=hH.2.2 i hi (le_refl _);obtain⟨bI,Ke⟩:=List.getElem?_eq_some_iff.1 hri;refine Nq gg (by have:=ht X[i].1 (mem_map.2 ⟨_,getElem_mem hi,rfl⟩);omega) ?_ ?_
  ·rintro a' c' Mj k u1 iZ hk ⟨ch,wI⟩ adx;have pH:=wI.swap;obtain⟨b2,rfl,dS,_⟩:=cA.at_ 2 wI rfl hH.2.1 (j:=i) bI;rw[Ke]at dS;have h5:ay u1 b2 (0+i*6+5) 1=some [.raw (.slice a' X[i].1.list.length c')]:=by rw[dS 5 1 (by omega)];show some [X[i].2]=_;rw[Mj]
   have bZ:decide ((k:Int)<((X[i].1.list.length:Nat):Int))=true:=by simpa using hk
   refine⟨_,_,_,Rf pH,by omega,by omega,_,_,_,by rw[toNat_natCast];exact h5,ab.t bZ ⟨_,_,_,Rf pH,by omega,by omega,_,_,_,by rw[toNat_natCast];exact h5,adx⟩⟩
  ·rintro a' c' Mj u1 iZ wI ⟨ch,aml⟩;obtain⟨b2,rfl,dS,fC⟩:=cA.at_ 1 wI rfl hH.2.1 (j:=i) bI;rw[Ke]at dS;have h5:ay u1 b2 (0+i*6+5) 1=some [.raw (.slice a' X[i].1.list.length c')]:=by rw[dS 5 1 (by omega)];show some [X[i].2]=_;rw[Mj]
   refine⟨_,_,_,Rf wI,by omega,by omega,_,_,_,by rw[toNat_natCast];exact h5,ab.f (by simp) ⟨_,_,_,Rf wI,by omega,by omega,?_⟩⟩;rw[toNat_natCast];refine fC 0 _ _ (by simp) λu' h'=>av _ ⟨_,hH.step ?_,h'⟩;rw[Ke];rfl
 ·rintro u next ⟨rows,hH,hO⟩
  rw[drop_length]at hO;exact⟨_,_,_,by rw[hA.rd d_ hO f 1 hf,WW],ab.f (by simp) (hk _ (hO.tail λ_ h=>h.drop))⟩
theorem KH:∀(n:Nat) {b o:Nat} {A:List PV->aR} (hA:Rw b o 7 A) (x:ae×PV×PV×PV) (hl:cW x.1) (hs:ah x.1.conds<=100000) {L:List aR} {u:Mem} (hO:Ow (A (fS x)::mj true n x::L) u) {K:Kq} (hk:∀μ' row,row.length=7->Ow (A row::L) μ'->K (.az []) μ'),aa prog 124 [pP b o] u K:=by
 intro n;induction n with
 |zero=>
  intro b o A hA x hl hs L u hO K hk;obtain⟨_,l1,l2,l3,l4,_⟩:=(bG _).1 hl;have hO:Ow (A (fS x)::eg true x.1.attr x.2.1::eg true x.1.value x.2.2.1::fB true 0 x.1.conds x.2.2.2::L) u:=hO.tail λ_ h=>Ow.nest h;refine iJ.c ?_;refine nU (f:=3) hA rfl (by omega) rfl (by omega) (λt ht=>by have:=(l3 t ht).1;omega) hO λu1 O1=>?_;refine nU (f:=4) hA rfl (by omega) rfl (by omega) (λt ht=>by have:=(l4 t ht).1;omega) O1 λu2 O2=>?_;obtain⟨h0,O3⟩:=Ow.and O2.swap;obtain⟨a,c,hq⟩:=cA.wX O3;have dS:∀{L':List aR} {u':Mem},Ow (A (fS x)::L') u'->ay u' b (o+6) 1=some [.raw (.slice a 0 c)]:=λh=>by rw[hA.rd rfl h 6 1 (by omega)];show some [x.2.2.2]=_;rw[hq];rfl
  refine ak.each (n:=0) (by omega) (λ_ u=>Ow (A (fS x)::L) u) O3.drop (λk u next hk=>by omega) λu next O4=>?_
  refine⟨_,_,_,dS O4,ab.f (by simp) ?_⟩;exact hA.st rfl O4 2 [pS ⟨#[103,111,110,101]⟩] _ (by simp) λu5 O5=>hk u5 _ rfl O5
 |succ n ih=>
  intro b o A hA x hl hs L u hO K hk;obtain⟨_,l1,l2,l3,l4,l5⟩:=(bG _).1 hl;have hO:Ow (A (fS x)::eg true x.1.attr x.2.1::eg true x.1.value x.2.2.1::fB true (n+1) x.1.conds x.2.2.2::L) u:=hO.tail λ_ h=>Ow.nest h;refine iJ.c ?_;refine nU (f:=3) hA rfl (by omega) rfl (by omega) (λt ht=>by have:=(l3 t ht).1;omega) hO λu1 O1=>?_;refine nU (f:=4) hA rfl (by omega) rfl (by omega) (λt ht=>by have:=(l4 t ht).1;omega) O1 λu2 O2=>?_;obtain⟨X,hX,hXc,O3⟩:=fB.open_ O2.swap;obtain⟨a,c,hq⟩:=cA.wX O3;rw[hq,length_map]at O3;have fw:=cK x.1.conds;have hXl:X.length<=100000:=by have:=congrArg List.length hX;rw[length_map]at this;omega
  have dS:∀{L':List aR} {u':Mem},Ow (A (fS x)::L') u'->ay u' b (o+6) 1=some [.raw (.slice a X.length c)]:=λh=>by rw[hA.rd rfl h 6 1 (by omega)];show some [x.2.2.2]=_;rw[hq,length_map]
  have O4:Ow (A (fS x)::cA dJ 7 (.raw (.slice a X.length c)) (X.map fS)::((X.drop 0).map (mj true n)++L)) u2:=(O3.tail λ_ h=>h.wF).swap;refine ak.each (n:=X.length) (by omega) (λi u=>∃rows,BT fS X 7 i rows/\Ow (A (fS x)::cA dJ 7 (.raw (.slice a X.length c)) rows::((X.drop i).map (mj true n)++L)) u) ⟨_,BT.start (λ_=>rfl),O4⟩ ?_ ?_
  ·rintro i u next hi ⟨rows,hH,hO⟩ av
   have hdr:X.drop i=X[i]::X.drop (i+1):=List.drop_eq_getElem_cons hi;have hri:rows[i]?=some (fS X[i]):=hH.2.2 i hi (le_refl _);obtain⟨bI,Ke⟩:=List.getElem?_eq_some_iff.1 hri;obtain⟨b2,rfl,_,_⟩:=cA.at_ 1 hO rfl hH.2.1 (j:=i) bI;refine⟨_,_,_,dS hO,ab.t (by simpa using hi) ⟨_,_,_,dS hO,by omega,by omega,?_⟩⟩;rw[toNat_natCast];have zC:X[i].1∈x.1.conds:=by rw[<- hX];exact mem_map.2 ⟨_,getElem_mem hi,rfl⟩
   have gg:Ow ((λrow=>cA dJ 7 (.raw (.slice (some ⟨b2,0,none⟩) X.length c)) (rows.set i row)) (fS X[i])::mj true n X[i]::(A (fS x)::((X.drop (i+1)).map (mj true n)++L))) u:=by
    rw[hdr,map_cons,cons_append]at hO;have h1:=hO.swap.tail λ_ h=>h.swap;show Ow (cA dJ 7 _ (rows.set i (fS X[i]))::_) u;rw[<- Ke,List.set_getElem_self];exact h1
   have hm:=dz zC;refine ih (Rw.vec hH.2.1 bI) X[i] (cE.1 l5 _ zC) (by omega) gg λμ' row vp h=>⟨rfl,av _ ⟨_,hH.step vp,h.swap⟩⟩
  ·rintro u next ⟨rows,hH,hO⟩
   rw[drop_length]at hO;refine⟨_,_,_,dS hO,ab.f (by simp) ?_⟩;exact hA.st rfl hO 2 [pS ⟨#[103,111,110,101]⟩] _ (by simp) λu5 O5=>hk u5 _ rfl (O5.tail λ_ h=>h.drop)
variable {u0:Mem} {K:Kq}
set_option maxRecDepth 100000
theorem BY.c{n:Fl}{b:Lq}(h: ak (α:=(Option Addr×Nat×Nat)×Int) (λo a e=> ab (decide (a.2<(b.length:Int))) (0<=a.2/\∃(d:List PV),(b)[toNat a.2]?=some d/\ ∃f g i j k m l,aA d 0 6=some [pI f,pS g,pI i,pS j,pI k,.list 3 m l]/\ fA 3 32 60 none 0 0 (.list 3 m l) e λp r q v=> fA 6 80 149 a.1.1 a.1.2.1 a.1.2.2 (.list 6 .nr [[pI f,pS g,pI i,pS j,pI k,pV p r q]]) v λs u t w=> o ((s,u,t),(wrap .i64 (a.2+1))) w) (K (pV a.1.1 a.1.2.1 a.1.2.2) e)) ((none,0,0),0) u0):aa prog 222 [.list 6 n b] u0 K:= VC [5] [(3,⟨[(3,.one (.raw .slice)),(8,.one (.raw (.int .i64)))],[]⟩)] [] [] [] [] [2,3,14,16,19,21] func222 h
theorem qO.c{A:Fl}{b:Lq}(h: ak (α:=(Option Addr×Nat×Nat)×Int) (λB a e=> ab (decide (a.2<(b.length:Int))) (0<=a.2/\∃(d:List PV),(b)[toNat a.2]?=some d/\ ∃f g i I j J k l L m,aA d 0 7=some [pI f,pB g,pS i,.list 6 I j,.list 6 J k,pB l,.list 7 L m]/\ aa prog 164 [.agg [pI f,pB g,pS i,.list 6 .sh j,.list 6 .sh k,pB l,.list 7 .sh m]] e λH F=> ∃n o p q s r t v u w x z y,H=(.agg [pI n,pB o,pS p,pV q s r,pV t v u,pB w,pV x z y])/\ fA 7 112 28 a.1.1 a.1.2.1 a.1.2.2 (.list 7 .nr [[pI n,pB o,pS p,pV q s r,pV t v u,pB w,pV x z y]]) F λC E D G=> B ((C,E,D),(wrap .i64 (a.2+1))) G) (K (pV a.1.1 a.1.2.1 a.1.2.2) e)) ((none,0,0),0) u0):aa prog 173 [.list 7 A b] u0 K:= VC [5] [(3,⟨[(3,.one (.raw .slice)),(8,.one (.raw (.int .i64)))],[]⟩)] [] [] [] [] [2,3,12,14,16,18] func173 h
theorem zi.c{a:Int}{b j:Bool}{d:ByteArray}{f i l:Fl}{e g k:Lq}(h: aa prog 222 [.list 6 f e] u0 λy v=> ∃p r q,y=(pV p r q)/\ aa prog 222 [.list 6 i g] v λz w=> ∃s u t,z=(pV s u t)/\ aa prog 173 [.list 7 l k] w λA x=> ∃m o n,A=(pV m o n)/\ K (.agg [pI a,pB b,pS d,pV p r q,pV s u t,pB j,pV m o n]) x):aa prog 164 [.agg [pI a,pB b,pS d,.list 6 f e,.list 6 i g,pB j,.list 7 l k]] u0 K:= VC [1,2] [] [] [] [] [] [2,5,9,13,14,15] func164 h
theorem CR.c{a:ByteArray}{f d:Fl}{e b:Lq}(h: (((aa prog 173 [.list 7 f e] u0 λW O=> ∃p u t,W=(pV p u t)/\ (fA 19 224 66 none 0 0 (.list 19 d b) O λv N M P=> (K (.agg [pS a,pV p u t,pV v N M]) P)/\ True)/\ True)/\ True)/\ (aa prog 173 [.list 7 f e] u0 λX Q=> ∃q s r,X=(pV q s r)/\ (fA 19 224 66 none 0 0 (.list 19 d b) Q λw y x R=> (K (.agg [pS a,pV q s r,pV w y x]) R)/\ True)/\ True)/\ True)/\ ((aa prog 173 [.list 7 f e] u0 λY n=> ∃g j i,Y=(pV g j i)/\ ((fA 19 224 66 none 0 0 (.list 19 d b) n λz B A S=> (K (.agg [pS a,pV g j i,pV z B A]) S)/\ True)/\ True)/\ (fA 19 224 66 none 0 0 (.list 19 d b) n λC E D T=> (K (.agg [pS a,pV g j i,pV C E D]) T)/\ True)/\ True)/\ True)/\ (aa prog 173 [.list 7 f e] u0 λZ o=> ∃k m l,Z=(pV k m l)/\ ((fA 19 224 66 none 0 0 (.list 19 d b) o λF H G U=> (K (.agg [pS a,pV k m l,pV F H G]) U)/\ True)/\ True)/\ (fA 19 224 66 none 0 0 (.list 19 d b) o λI L J V=> (K (.agg [pS a,pV k m l,pV I L J]) V)/\ True)/\ True)/\ True):aa prog 109 [.agg [pS a,.list 7 f e,.list 19 d b]] u0 K:= VC [1,2,1000001] [] [] [] [] [] [2,7,10,11] func109 h
theorem vZ.c{a:Option Addr}{b:ByteArray}(h: nP a λr s=> ∃e,ay u0 r (s+6) 1=some [pA e]/\ aa prog 75 [pA e,pS b] u0 λu d=> ∃f w g x i z y j,u=(.az [.agg [pS f,.list 7 w g,.list 19 x i,.list 1 z y],pB j])/\ ab (!j) (K (.az [.agg [pS ⟨#[]⟩,.list 7 .nil [],.list 19 .nil []],pB false]) d) (aa prog 109 [.agg [pS f,.list 7 .sh g,.list 19 .sh i]] d λv t=> ∃k l n m o q p,v=(.agg [pS k,pV l n m,pV o q p])/\ K (.az [.agg [pS k,pV l n m,pV o q p],pB true]) t)):aa prog 61 [pA a,pS b] u0 K:= VC [4,6] [] [] [] [] [] [4,19,22] func61 h
theorem kT.c{k m:Fl}{j l:Lq}{z:Int}(h: aa prog 36 [.list 3 k j,.list 12 m l] u0 λc8 B=> ∃O,c8=(pB O)/\ ab (!O) (aa prog 19 [] B λc9 b8=> ∃P,c9=(pB P)/\ K (pB P) b8) (aa prog 22 [.list 3 k j,.list 12 m l] B λd9 H=> ∃a b,d9=(.az [pA a,pA b])/\ ab (Option.isNone a) (K (pB false) H) (aa prog 38 [pA b] H λe0 c3=> ∃Q e,e0=(.list 2 Q e)/\ aa prog 31 [pI z,pI (wrap .i64 ((e.length:Int)+1))] c3 λe1 c4=> ∃f,e1=(pI f)/\ aa prog 58 [pA a] c4 λe2 c5=> ∃n o p,e2=(.fn n o p)/\ (0:Int)<=(0:Int)/\0<=f/\f<=(e.length:Int)/\ aa prog 59 [.fn n o p,pI f] c5 λe3 c6=> ∃S R,e3=(.list 2 S R)/\ aa prog 29 [.list 2 S R,.list 2 .sh (drop (toNat (0:Int)) (take (toNat f) e))] c6 λe4 I=> ∃T,e4=(pB T)/\ ab (!T) (K (pB false) I) (aa prog 23 [.fn n o p] I λe5 c7=> ∃V U,e5=(.list 2 V U)/\ aa prog 29 [.list 2 V U,.list 2 Q e] c7 λe6 J=> ∃W,e6=(pB W)/\ ab (!W) (K (pB false) J) (ak (α:=Int) (λb4 i d=> nP b λb1 b5=> ∃e7 X,ay d b1 (b5+2) 1=some [.list 3 e7 X]/\ ab (decide (i<(X.length:Int))) (nP b λb2 b6=> ∃e8 Y,ay d b2 (b6+2) 1=some [.list 3 e8 Y]/\ 0<=i/\∃(A:List PV),(Y)[toNat i]?=some A/\ ∃g e9 q f0 r,aA A 0 3=some [pS g,.list 7 e9 q,.list 19 f0 r]/\ nP b λb3 b7=> ∃a0 Z,ay d b3 (b7+3) 1=some [.list 12 a0 Z]/\ aa prog 60 [.agg [pS g,.list 7 .sh q,.list 19 .sh r],.list 12 a0 Z,pI 200] d λd0 C=> ∃a2 a1 a3,d0=(.az [.list 2 a2 a1,pB a3])/\ ab (!a3) (K (pB false) C) (aa prog 24 [pA a,pS g] C λd1 b9=> ∃a4 a5 a6,d1=(.fn a4 a5 a6)/\ aa prog 23 [.fn a4 a5 a6] b9 λd2 c0=> ∃a8 a7,d2=(.list 2 a8 a7)/\ aa prog 29 [.list 2 a8 a7,.list 2 a2 a1] c0 λd3 D=> ∃a9,d3=(pB a9)/\ ab (!a9) (K (pB false) D) (aa prog 61 [pA a,pS g] D λd4 E=> ∃s t v u w y x b0,d4=(.az [.agg [pS s,pV t v u,pV w y x],pB b0])/\ ab (!b0) (K (pB false) E) (aa prog 62 [.agg [pS g,.list 7 .sh q,.list 19 .sh r],.agg [pS s,pV t v u,pV w y x]] E λd5 F=> ∃L,d5=(pB L)/\ ab (!L) (K (pB false) F) (aa prog 63 [.agg [pS s,pV t v u,pV w y x]] F λd6 c1=>
 d6=(.az [])/\ b4 (wrap .i64 (i+1)) c1))))) (aa prog 43 [pA a,pA b] d λd7 G=> ∃M,d7=(pB M)/\ ab M (aa prog 19 [] G λd8 c2=> ∃N,d8=(pB N)/\ K (pB N) c2) (K (pB false) G))) (0) J))))):aa prog 11 [.list 3 k j,.list 12 m l,pI z] u0 K:= VC [12,15] [(12,⟨[(11,.one (.raw (.int .i64)))],[]⟩)] [] [] [] [] [15,95,99,100,106,110] func11 h
end Go.Proofs.YtbodiiomcfgokaaGreat
namespace Go.Proofs.YtbodiiomcfgokaaGreat
open Go.Proofs.Tryz Go.aP Go.RowKit K6
theorem Ir{L:List aR}{μ:Mem}(hO:Ow L μ)(f:Fl)(l:List Test)(hl:l.length<=100000)(ht:∀t∈l,t.list.length<=1000000){K:Kq}(hk:∀a c μ',Ow (eg true l (.raw (.slice a l.length c))::L) μ'->K (.raw (.slice a l.length c)) μ'):aa prog 222 [.list 6 f (l.map Test.pv)] μ K:=by
 refine BY.c ?_;refine ak.dd (n:=l.length) (by omega) (λi x u=>∃X:List (Test×PV),X.map (·.1)=l.take i/\(∀x∈X,x.2.cell=true)/\x.2.1=X.length/\Ow (cA gS 6 (.raw (.slice x.1 x.2.1 x.2.2)) (X.map o_)::(X.map (rA true)++L)) u) ⟨[],rfl,by simp,rfl,cA.nil _ _ hO⟩ ?_ ?_
 ·rintro i ⟨a,n,c⟩ u next hi ⟨X,hX,hc,rfl,hO⟩ av
  have hXl:X.length=i:=by have:=congrArg List.length hX;rw[length_map,length_take]at this;omega
  refine ab.t (by simpa using hi) ⟨by omega,_,aC hi,_,_,_,_,_,_,_,rfl,?_⟩;have hti:=ht _ (getElem_mem hi);refine MS hO (Ju _) (LA _) (by simp;omega) (by simp;omega) λa1 c1 u1 O1=>?_;rw[length_map]at O1 |-;refine PF hO l[i] (.raw (.slice a1 l[i].list.length c1)) rfl (by omega) (L2:=L) O1 λb' c' u3 O3=>av _ _ ⟨X++[(l[i],.raw (.slice a1 l[i].list.length c1))],?_,?_,by simp,O3⟩
  ·rw[map_append,hX,take_add_one,getElem?_eq_getElem hi];rfl
  ·intro x hx;rcases mem_append.1 hx with h|h
   ·exact hc x h
   ·simp at h;subst h;rfl
 ·rintro⟨a,n,c⟩ u next ⟨X,hX,hc,rfl,hO⟩
  rw[take_length]at hX;refine ab.f (by simp) ?_;subst hX;have:=hk a c u;rw[length_map]at this;exact this (eg.shut hc hO)
theorem SE:∀(n:Nat) {L:List aR} {μ:Mem} (hO:Ow L μ) (f:Fl) (l:List ae) (hs:ah l<=n) (h6:ah l<=100000) (hl:bX l) {K:Kq} (hk:∀a c μ',Ow (fB true n l (.raw (.slice a l.length c))::L) μ'->K (.raw (.slice a l.length c)) μ'),aa prog 173 [.list 7 f (l.map ae.pv)] μ K:=by
 intro n;induction n with
 |zero=>
  intro L μ hO f l hs h6 hl K hk;have:l=[]:=by
   cases l with
   |nil=>rfl
   |cons c l=>simp[ah,bN]at hs
  subst this;refine qO.c ?_;refine ak.dd (n:=0) (by omega) (λ_ x u=>x=(none,0,0)/\Ow L u) ⟨rfl,hO⟩ (λk x u next hk=>by omega) λx u next hx=>ab.f (by simp) ?_
  obtain⟨rfl,hO⟩:=hx;exact hk none 0 u ((cA.nil dJ 7 hO).imp λ_ h=>⟨rfl,h⟩)
 |succ n ih=>
  intro L μ hO f l hs h6 hl K hk;have rD:=cK l;refine qO.c ?_;refine ak.dd (n:=l.length) (by omega) (λi x u=>∃X:List (ae×PV×PV×PV),X.map (·.1)=l.take i/\(∀x∈X,x.2.1.cell=true/\x.2.2.1.cell=true/\x.2.2.2.cell=true)/\x.2.1=X.length/\Ow (cA dJ 7 (.raw (.slice x.1 x.2.1 x.2.2)) (X.map fS)::(X.map (mj true n)++L)) u) ⟨[],rfl,by simp,rfl,cA.nil _ _ hO⟩ ?_ ?_
  ·rintro i ⟨a,m,c⟩ u next hi ⟨X,hX,hc,rfl,hO⟩ av
   have hXl:X.length=i:=by have:=congrArg List.length hX;rw[length_map,length_take]at this;omega
   have hm:=dz (getElem_mem hi);obtain⟨_,ha,hv,Ja,NY,oB⟩:=(bG _).1 (cE.1 hl _ (getElem_mem hi));refine ab.t (by simpa using hi) ⟨by omega,_,aC hi,_,_,_,_,_,_,_,_,_,_,jD _,?_⟩;refine zi.c ?_;refine Ir hO .sh l[i].attr (by omega) (cI Ja) λa1 c1 u1 O1=>⟨_,_,_,rfl,?_⟩;refine Ir O1 .sh l[i].value (by omega) (cI NY) λa2 c2 u2 O2=>⟨_,_,_,rfl,?_⟩;refine ih O2 .sh l[i].conds (by omega) (by omega) oB λa3 c3 u3 O3=>⟨_,_,_,rfl,_,_,_,_,_,_,_,_,_,_,_,_,_,rfl,?_⟩;have O4:Ow (mj true n (l[i],.raw (.slice a1 l[i].attr.length c1),.raw (.slice a2 l[i].value.length c2),.raw (.slice a3 l[i].conds.length c3))::(cA dJ 7 (.raw (.slice a X.length c)) (X.map fS)::(X.map (mj true n)++L))) u3:=
    Ow.pack (L1:=[_,_,_]) ((O3.swap.tail λ_ h=>h.swap).swap.tail λ_ h=>h)
   refine Sg (l[i],.raw (.slice a1 l[i].attr.length c1),.raw (.slice a2 l[i].value.length c2),.raw (.slice a3 l[i].conds.length c3)) ⟨rfl,rfl,rfl⟩ (by omega) O4 λb' c' u4 O5=>av _ _ ⟨X++[(l[i],.raw (.slice a1 l[i].attr.length c1),.raw (.slice a2 l[i].value.length c2),.raw (.slice a3 l[i].conds.length c3))],?_,?_,by simp,O5⟩
   ·rw[map_append,hX,take_add_one,getElem?_eq_getElem hi];rfl
   ·intro x hx;rcases mem_append.1 hx with h|h
    ·exact hc x h
    ·simp at h;subst h;exact⟨rfl,rfl,rfl⟩
  ·rintro⟨a,m,c⟩ u next ⟨X,hX,hc,rfl,hO⟩
   rw[take_length]at hX;refine ab.f (by simp) ?_;subst hX;have:=hk a c u;rw[length_map]at this;exact this (fB.shut hc hO)
theorem VO{L:List aR}{μ:Mem}(hO:Ow L μ)(fc fa:Fl)(p:Prod)(n:Nat)(hs:ah p.conds<=n)(h6:ah p.conds<=100000)(hl:bX p.conds)(ha:p.bk.length<=100000){K:Kq}
  (hk:∀a1 c1 a2 c2 μ',Ow (fB true n p.conds (.raw (.slice a1 p.conds.length c1))::cA sM 19 (.raw (.slice a2 p.bk.length c2)) (p.bk.map cT.pv)::L) μ'->K (.agg [pS p.name,.raw (.slice a1 p.conds.length c1),.raw (.slice a2 p.bk.length c2)]) μ'):
  aa prog 109 [.agg [pS p.name,.list 7 fc (p.conds.map ae.pv),.list 19 fa (p.bk.map cT.pv)]] μ K:=by
 refine CR.c ?_;have main:∀{G:Kq},(∀a1 c1 μ',(∀{H:Option Addr->Nat->Nat->Mem->Prop},(∀a2 c2 u,K (.agg [pS p.name,.raw (.slice a1 p.conds.length c1),.raw (.slice a2 p.bk.length c2)]) u->H a2 p.bk.length c2 u)->fA 19 224 66 none 0 0 (.list 19 fa (p.bk.map cT.pv)) μ' H)->G (.raw (.slice a1 p.conds.length c1)) μ')->aa prog 173 [.list 7 fc (p.conds.map ae.pv)] μ G:=λ{G} hG=>by
  refine SE n hO fc p.conds hs h6 hl λa c μ' h=>hG a c μ' λ{H} hH=>?_;refine MS h (La _) (MT _) (by simp;omega) (by simp;omega) λa2 c2 u2 h2=>?_;rw[length_map]at h2 |-;exact hH a2 c2 u2 (hk a c a2 c2 u2 (Ow.swap h2))
 have A1:∀{X:Kq},True:=λ{_}=>trivial;refine⟨⟨⟨?_,trivial⟩,?_,trivial⟩,⟨?_,trivial⟩,?_,trivial⟩
 all_goals first
  |exact main λa1 c1 u h=>⟨_,_,_,rfl,h λ_ _ _ hu=>⟨hu,trivial⟩,trivial⟩
  |exact main λa1 c1 u h=>⟨_,_,_,rfl,⟨h λ_ _ _ hu=>⟨hu,trivial⟩,trivial⟩,h λ_ _ _ hu=>⟨hu,trivial⟩,trivial⟩
theorem ZR(nm:ByteArray)(n:Nat)(p:Prod)(hs:ah p.conds<=100000)(hl:bX p.conds)(ha:p.bk.length<=100000){a1 a2:Option Addr}{c1 c2:Nat}{L:List aR}{μ:Mem}(hO:Ow (fB true (n+1) p.conds (.raw (.slice a1 p.conds.length c1))::cA sM 19 (.raw (.slice a2 p.bk.length c2)) (p.bk.map cT.pv)::L) μ){K:Kq}(hk:∀μ',Ow L μ'->K (.az []) μ'):
  aa prog 63 [.agg [pS nm,.raw (.slice a1 p.conds.length c1),.raw (.slice a2 p.bk.length c2)]] μ K:=by
 obtain⟨X,hX,hXc,O3⟩:=fB.open_ hO;have hXl:X.length=p.conds.length:=by have:=congrArg List.length hX;rwa [length_map]at this
 have hY:p.conds.length<=100000:=by have:=cK p.conds;omega
 refine uo.c ?_;have O4:Ow (cA dJ 7 (.raw (.slice a1 p.conds.length c1)) (X.map fS)::((X.drop 0).map (mj true n)++(cA sM 19 (.raw (.slice a2 p.bk.length c2)) (p.bk.map cT.pv)::L))) μ:=O3;refine ak.each (n:=p.conds.length) (by omega) (λi u=>∃rows,BT fS X 7 i rows/\Ow (cA dJ 7 (.raw (.slice a1 p.conds.length c1)) rows::((X.drop i).map (mj true n)++(cA sM 19 (.raw (.slice a2 p.bk.length c2)) (p.bk.map cT.pv)::L))) u) ⟨_,BT.start (λ_=>rfl),O4⟩ ?_ ?_
 ·rintro i u next hi ⟨rows,hH,hO⟩ av
  have tD:i<X.length:=by omega
  have hdr:X.drop i=X[i]::X.drop (i+1):=List.drop_eq_getElem_cons tD;have hri:rows[i]?=some (fS X[i]):=hH.2.2 i tD (le_refl _);obtain⟨bI,Ke⟩:=List.getElem?_eq_some_iff.1 hri;obtain⟨b2,rfl,_,_⟩:=cA.at_ 0 hO rfl hH.2.1 (j:=i) bI;refine ab.t (by simpa using hi) ⟨by omega,by omega,?_⟩;rw[toNat_natCast];have zC:X[i].1∈p.conds:=by rw[<- hX];exact mem_map.2 ⟨_,getElem_mem tD,rfl⟩
  have gg:Ow ((λrow=>cA dJ 7 (.raw (.slice (some ⟨b2,0,none⟩) p.conds.length c1)) (rows.set i row)) (fS X[i])::mj true n X[i]::((X.drop (i+1)).map (mj true n)++(cA sM 19 (.raw (.slice a2 p.bk.length c2)) (p.bk.map cT.pv)::L))) u:=by
   rw[hdr,map_cons,cons_append]at hO;show Ow (cA dJ 7 _ (rows.set i (fS X[i]))::_) u;rw[<- Ke,List.set_getElem_self];exact hO
  have hm:=dz zC;exact KH n (Rw.vec hH.2.1 bI) X[i] (cE.1 hl _ zC) (by omega) gg λμ' row vp h=>⟨rfl,av _ ⟨_,hH.step vp,h⟩⟩
 ·rintro u next ⟨rows,hH,hO⟩
  rw[<- hXl,drop_length]at hO;refine ab.f (by simp) ?_;refine ak.each (n:=p.bk.length) (by omega) (λi u=>∃rows:Lq,rows.length=p.bk.length/\(∀r∈rows,r.length=19)/\Ow (cA sM 19 (.raw (.slice a2 p.bk.length c2)) rows::L) u) ⟨_,by simp,La _,hO.drop⟩ ?_ ?_
  ·rintro i u next hi ⟨rows,vp,hr,hO⟩ av
   obtain⟨b2,rfl,_,fC⟩:=cA.at_ 0 hO rfl hr (j:=i) (by omega);refine ab.t (by simpa using hi) ⟨by omega,by omega,?_⟩;rw[toNat_natCast];have hl:rows[i].length=19:=hr _ (getElem_mem (by omega));refine fC 0 _ _ (by simp) λu' h'=>av _ ⟨_,by rw[length_set];exact vp,λr Bk=>?_,h'⟩;rcases List.mem_or_eq_of_mem_set Bk with h|rfl
   ·exact hr r h
   ·unfold dx;simp only[length_append,length_take,List.length_drop,length_cons,List.length_nil];omega
  ·rintro u next ⟨rows,vp,hr,hO⟩
   exact ab.f (by simp) (hk _ hO.drop)
def WJ(s:ByteArray)(t:cx):List PV:=Mt.pv ⟨s,t.tags⟩
theorem ad6(s:ByteArray)(out:List cx)(x:cx)(f1 f2:Fl)(hl:out.length<=10000000)(hx:x.tags.length<=1000000)(ho:∀t∈out,t.tags.length<=1000000):au prog 122 [.list 2 f1 (out.map (WJ s)),.agg [pS s,.list 1 f2 (x.tags.map gq)]] λp=>∃l:List cx,p=.list 2 .sh (l.map (WJ s))/\l.length=out.length+1/\(∀t∈l,t∈out\/t=x)/\(b_ bd cx.tags out->(∀t∈out,t.tags≠x.tags)->l=aZ bd cx.tags x out):=by
 refine au.of (wc.c ?_);refine⟨λi' u'=>∃i:Nat,i'=(i:Int)/\i<=out.length/\(∀(j:Nat) (h:j<out.length),i<=j->bd x.tags out[j].tags<0)/\(i=0\/∃h:i-1<out.length,¬bd x.tags out[i-1].tags<0)/\u'=M0,?_,?_⟩
 ·rw[length_map];refine ak.down (n:=out.length) (k:=0) (by omega) (by omega) (λi u'=>(∀(j:Nat) (h:j<out.length),i<=j->bd x.tags out[j].tags<0)/\u'=M0) ⟨λj h1 h2=>by omega,rfl⟩ ?_ ?_
  ·rintro j u' iZ h0 hj ⟨fR,rfl⟩ g_;have e1:wrap .i64 ((j:Int)-1)=((j-1:Nat):Int):=by rw[aD (by omega) (by omega)];omega
   rw[e1]at g_ |-;refine ab.t (by simpa using h0) ⟨by omega,_,aC (show j-1<out.length by omega),_,_,_,rfl,?_⟩;refine qQ.c (ab.f (by rw[eG];rfl) ?_);refine(SK .sh .sh x.tags out[j-1].tags (by omega) (by have:=ho _ (getElem_mem (show j-1<out.length by omega));omega)).call ⟨_,rfl,_,rfl,ab.mk (λh=>?_) (λh=>?_)⟩
   ·have h:=(nA _ _).1 h;refine g_ _ ⟨λq hq hjq=>?_,rfl⟩;by_cases e:q=j-1
    ·subst e;exact h
    ·exact fR q hq (by omega)
   ·refine⟨j,rfl,hj,fR,.inr ⟨by omega,λbI=>?_⟩,rfl⟩;rw[(nA _ _).2 bI]at h;cases h
  ·rintro u' iZ ⟨fR,rfl⟩;exact ab.f (by simp) ⟨0,rfl,by omega,fR,.inl rfl,rfl⟩
 ·rintro _ _ ⟨i,rfl,hi,fR,h0,rfl⟩;rw[length_map];have hO:Ow [] M0:=trivial;have t1:drop (toNat (0:Int)) (take (toNat (i:Int)) (out.map (WJ s)))=(out.take i).map (WJ s):=by
   rw[toNat_natCast,map_take];rfl
  have t2:drop (toNat (i:Int)) (take (toNat ((out.length:Nat):Int)) (out.map (WJ s)))=(out.drop i).map (WJ s):=by
   rw[toNat_natCast,toNat_natCast,map_drop,List.take_of_length_le (by simp)]
  rw[t1,t2];refine⟨by omega,by omega,by omega,?_⟩;refine Ow.Td hO (by simp;omega) (by simp;omega) λg1 u2 h2=>?_;refine h2.app (by simp) (by simp;omega) (by simp;omega) λg2 u3 h3=>⟨by omega,by omega,by omega,?_⟩;refine h3.app (by simp) (by simp;omega) (by simp;omega) λg3 u4 h4=>?_;refine⟨out.take i++x::out.drop i,?_,by simp;omega,λt ht=>?_,λhu aQ=>QX hu hi aQ fR h0⟩
  ·show PV.list 2 .sh _=_;congr 1;rw[map_append,map_cons,nil_append,append_assoc];rfl
  ·rcases mem_append.1 ht with h|h
   ·exact .inl (mem_of_mem_take h)
   ·rcases mem_cons.1 h with rfl|h
    ·exact .inr rfl
    ·exact .inl (List.mem_of_mem_drop h)
theorem aid{es:List aj}{B:Int}(hB:0<=B/\B<=1000000)(Of:es.length<=100000)(aQ:Cv es){p:Prod}(hp:qL p)(hv:¬dj B es p.conds)(fc fa fe:Fl):
  Pure prog 60 [.agg [pS p.name,.list 7 fc (p.conds.map ae.pv),.list 19 fa (p.bk.map cT.pv)],.list 12 fe (es.map aj.pv),pI B] (.az [.list 2 .sh ((mS es p).map Mt.pv),pB true]):=by
 obtain⟨g1,_,_,g4,_⟩:=hp.facts;refine au.of (yd.c (jX.c λb hb=>?_));have hO:Ow [] M0:=trivial;refine Xt hB (by omega) g1 hp.knd g4 .sh _ (hO.new _ _ hb) λf1 o N cv out u1 h1 h2 hN hl ht sv=>⟨_,_,rfl,_,_,_,rfl,?_⟩;obtain⟨a,c,gg⟩:=oY.open_ sv;have ho:o=false:=by
  cases o with
  |false=>rfl
  |true=>exact absurd (h2 rfl) hv
 obtain⟨_,eZ,_⟩:=h1 ho;subst ho;refine⟨_,gg.rd 0 rfl (by simp),ab.f rfl ?_⟩;have Ve:UG out:=by rw[eZ];exact wP aQ _
 refine ak.dd (n:=out.length) (by omega) (λk s u=>∃l:List cx,s.2=l.map (WJ p.name)/\l.length=k/\(∀t∈l,t∈out.take k)/\l=Aj (out.take k)/\u=u1) ⟨[],rfl,rfl,by simp,rfl,rfl⟩ ?_ ?_
 ·rintro k ⟨f,_⟩ u next hk ⟨l,rfl,rD,fE,hs,rfl⟩ av
  refine ab.t (by simpa using hk) ⟨by omega,_,aC hk,_,_,rfl,?_⟩;have gf:out.take (k+1)=out.take k++[out[k]]:=by rw[take_add_one,getElem?_eq_getElem hk];rfl
  refine(ad6 p.name l out[k] f .sh (by omega) (by have:=ht _ (getElem_mem hk);omega) (λt h=>by have:=ht t (mem_of_mem_take (fE t h));omega)).call ?_;rintro _ ⟨l2,rfl,n1,n2,n3⟩;have hpw:UG (out.take k++[out[k]]):=by rw[<- gf];exact Ve.sublist (List.take_sublist _ _)
  obtain⟨q1,_,q3⟩:=List.pairwise_append.1 hpw;obtain⟨m1,m2⟩:=Ai q1;refine⟨_,_,rfl,av _ _ ⟨l2,rfl,by omega,λt h=>?_,?_,rfl⟩⟩
  ·rw[gf];rcases n2 t h with h|rfl
   ·exact List.mem_append_left _ (fE t h)
   ·exact List.mem_append_right _ (by simp)
  ·rw[gf,Dd,<- hs];exact n3 (by rw[hs];exact m1) λt h=>q3 t (fE t h) _ (by simp)
 ·rintro⟨f,_⟩ u next ⟨l,rfl,rD,fE,hs,rfl⟩
  rw[take_length]at hs;refine ab.f (by simp) ?_;have e:l.map (WJ p.name)=(mS es p).map Mt.pv:=by
   unfold mS kH;rw[hs,eZ,map_map];rfl
  rw[e];rfl
theorem aag{fn:Fn}{a b:List PV}{A:aR}{l:List Mt}(hs:F_ prog (.fn fn a b) (l.map λm=>[.agg m.pv]) A)(hl:l.length<=1000000){k:Nat}(Gy:k<=l.length){L:List aR}{μ:Mem}(hO:Ow (A::L) μ){K:Kq}(hk:∀f μ',Ow (A::L) μ'->K (.list 2 f ((l.take k).map Mt.pv)) μ'):
  aa prog 59 [.fn fn a b,pI (k:Nat)] μ K:=by
 refine km.c λb3 Kr b5 TA=>?_;have O0:=hO.new 3 [pI (k:Nat)] Kr;have O1:=jy.new (O0.new 48 [.list 2 .nil []] TA);refine⟨_,O1.rd 1 rfl (by simp),ab.mk (λh=>?_) (λh=>?_)⟩
 ·have h:((k:Nat):Int)<1:=of_decide_eq_true h;obtain rfl:k=0:=by omega
  exact hk _ _ O1.drop.drop
 have jB:¬((k:Nat):Int)<1:=of_decide_eq_false h;refine bu.acb hs (Ow.ord [2] O1) (λi u=>i<k/\Ow (jy b5 48 2 ((l.take i).map Mt.pv)::Pt b3 3 [pI (k:Nat)]::L) u) (λc u=>c=.exit 0/\Ow (jy b5 48 2 ((l.take k).map Mt.pv)::Pt b3 3 [pI (k:Nat)]::L) u) (λ_=>eC.and (eC.own _)) (λ_=>eC.and (eC.own _)) (λ_ h'=>⟨by omega,h'⟩) ?_ ?_ ?_
 ·rintro i Kn u R ⟨uB,h2⟩ ca iE;have hi:i<l.length:=by simpa using Kn
  rw[getElem_map];refine⟨_,_,_,rfl,?_⟩;refine jy.go 0 h2 rfl (by simp;omega) (by simp;omega) λu4 h4=>?_;have h5:Ow (jy b5 48 2 ((l.take (i+1)).map Mt.pv)::Pt b3 3 [pI (k:Nat)]::L) u4:=by
   rw[eP hi];exact h4
  obtain⟨f,hf⟩:=jy.rd 0 h5 rfl;refine⟨_,_,hf,_,h5.rd 1 rfl (by simp),?_⟩;have hlen:(((l.take (i+1)).map Mt.pv).length:Nat)=i+1:=by rw[length_map,length_take];omega
  rw[hlen];refine ab.mk (λh=>iE _ _ ⟨rfl,?_⟩) (λh=>ca _ ⟨?_,h5⟩)
  ·have h:=of_decide_eq_true h;obtain rfl:k=i+1:=by omega
   exact h5
  ·have h:=of_decide_eq_false h;omega
 ·intro u h;obtain⟨h1,_⟩:=Ow.and (Ow.swap h);rw[length_map]at h1;omega
 ·rintro c u h;obtain⟨rfl,_⟩:=Ow.and (Ow.swap h);have h3:Ow (A::jy b5 48 2 ((l.take k).map Mt.pv)::Pt b3 3 [pI (k:Nat)]::L) u:=h.tail λ_ h=>(Ow.and h).2.Uy;obtain⟨f,hf⟩:=jy.rd 1 h3 rfl;show ∃f rows,_/\_;exact⟨_,_,hf,hk f u (h3.tail λ_ h=>h.drop.drop)⟩
section
variable {n r:Nat} {x:NC} {es:List aj} {ps:List Prod} {w:Nat} {y:po}
theorem ZW(hw:w<=1000){s:ByteArray}{q:Prod}(hq:aL bE jJ s ps=some q)(k:Nat)(hs:ah q.conds<=k){L:List aR}{μ:Mem}(hO:Ow (gB n x es ps w::L) μ){F:Kq}
  (hk:∀a1 c1 a2 c2 μ',Ow (fB true k q.conds (.raw (.slice a1 q.conds.length c1))::cA sM 19 (.raw (.slice a2 q.bk.length c2)) (q.bk.map cT.pv)::gB n x es ps w::L) μ'->F (.az [.agg [pS q.name,.raw (.slice a1 q.conds.length c1),.raw (.slice a2 q.bk.length c2)],pB true]) μ'):
  aa prog 61 [pP n 0,pS s] μ F:=by
 obtain⟨T,ms,ids,tk,ct,fr,mn,⟨hR,mV⟩,h2⟩:=gB.open_ hO;have oA:ps.length<=1000:=le_trans hR.JL hw;have shut:∀{u:Mem} {M:List aR},Ow (fQ n x es ms ids T tk ct fr mn ps M) u->Ow (gB n x es ps w::M) u:=λh=>gB.shut hR mV h;have aI:=hR.Gt _ ((a_ cJ hR.Jo).1 hq).1;obtain⟨_,_,_,g4,g5,_,_⟩:=aI.facts;refine vZ.c ⟨_,aJ (an.xp (x:=x) (es:=es) (ms:=ms) (ids:=ids) h2 (by simp)) (by simp),?_⟩;refine RP.gO (Ow.at 2 rfl h2) hR.u (by rw[length_map];omega) s (λy u hy h3=>?_) (λu hy h3=>?_)
 ·rw[sw,hq]at hy;obtain⟨q',WW,rfl⟩:=Option.map_eq_some_iff.1 hy;cases WW;refine⟨_,_,_,_,_,_,_,_,rfl,ab.f rfl ?_⟩;have h4:Ow (gB n x es ps w::L) u:=shut (Ow.ord [1,1,0] h3);exact VO h4 .sh .sh q k hs (by omega) aI.sk (by omega) λa1 c1 a2 c2 u5 h5=>⟨_,_,_,_,_,_,_,rfl,hk a1 c1 a2 c2 u5 h5⟩
 ·rw[sw,hq]at hy;cases hy
end
theorem FM(ps:List Prod)(_:(∀s∈ps,True)/\ps.length<=maxLen)(es:List aj)(_:(∀s∈es,True)/\es.length<=maxLen)(k:Int):Pure prog 11 [.list 3 .sh (ps.map Prod.pv),.list 12 .sh (es.map aj.pv),pI k] (pB true):=by
 refine au.of (kT.c ?_);refine(SJ .sh .sh ps es).call ?_;rintro _ ⟨q,rfl,hq⟩;refine⟨_,rfl,ab.mk (λ_=>Lr _) (λhf=>?_)⟩;obtain⟨hp,he⟩:=hq (nt hf);refine VW .sh .sh (by omega) hp es (by omega) (L:=[]) trivial λn r x nT oa y u1 hT hM ht Pn ke hb h1=>⟨_,_,rfl,ab.f rfl ?_⟩;obtain⟨mV,hM1,hu,hup,alh,oA⟩:=gB.facts h1;have aQ:=ym hu;have fR:=hb.all;have hlen:(allM nT oa).length<=1024:=by rw[BP aQ];omega
 refine XI hb.ok (Ow.swap h1) λf u2 h2=>⟨_,_,rfl,?_⟩;rw[fR];have ew:wrap .i64 (((((allM nT oa).map Mt.pv).length:Nat):Int)+1)=(((allM nT oa).length+1:Nat):Int):=by rw[length_map,aD (by omega) (by omega)];omega
 rw[ew];refine(VI k _ (by omega) (by omega)).call ?_;rintro _ ⟨j,rfl,hj⟩;refine⟨_,rfl,(SF n).call ⟨_,_,_,rfl,by omega,by omega,by rw[length_map];omega,?_⟩⟩;refine aag (l:=allM nT oa) (EC (by omega)) (by omega) (k:=j) (by omega) (Ow.swap h2) λg u3 h3=>⟨_,_,rfl,?_⟩;have t1:drop (toNat (0:Int)) (take (toNat (j:Int)) ((allM nT oa).map Mt.pv))=((allM nT oa).take j).map Mt.pv:=by
  rw[toNat_natCast,map_take];rfl
 rw[t1];obtain⟨_,_,_,_,acX,_⟩:=gB.facts h3;have nE:=Ef aQ acX;refine(Ax g .sh _ _ (by rw[length_take];omega) (λm hm=>nE m (mem_of_mem_take hm))).call (λ_=>?_) (λaQ=>absurd rfl aQ);refine⟨_,rfl,ab.f rfl ?_⟩;refine XH (by omega) h3 λg2 u4 h4=>⟨_,_,rfl,WB _ _ h4 rfl ⟨_,rfl,ab.f rfl ?_⟩⟩;have CC:=hb.ok.GC;refine ak.each (n:=y.ps.length) (by omega) (λi u=>Ow (gB n x nT oa 20::bS r y::[]) u) h4 ?_ ?_
 ·rintro i u5 next hi h5 av
  have hpi:=hb.ok.Gt _ (getElem_mem hi);obtain⟨_,_,_,g4,g5,_,_⟩:=hpi.facts;have hgi:aL bE jJ y.ps[i].name oa=some y.ps[i]:=by rw[<- hb.ps];exact zJ hb.ok.Jo hi
  have zF:=hb.ok.le _ (getElem_mem hi);rw[hb.B,hT]at zF;obtain⟨f5,h6⟩:=bS.open_ (Ow.swap h5);refine⟨_,_,h6.rd 0 rfl (by simp),ab.t (by simpa using hi) ⟨_,_,h6.rd 0 rfl (by simp),by omega,_,aC hi,_,_,_,_,_,rfl,_,_,h6.rd 0 rfl (by simp),?_⟩⟩;refine(aid (B:=200) (by omega) hb.ok.en hb.ok.ne hpi zF .sh .sh _).call ⟨_,_,_,rfl,ab.f rfl ?_⟩;refine(aib n y.ps[i].name).call ⟨_,_,_,rfl,?_⟩;refine aic (by omega) y.ps[i].name h5 λf7 u7 h7=>⟨_,_,rfl,?_⟩;have eof:ofM nT oa y.ps[i].name=mS y.es y.ps[i]:=by
   unfold ofM;rw[hgi,L_ hb.ok.ne];exact DA hb.es hb.ne _
  have eJ:∀m∈ofM nT oa y.ps[i].name,m∈allM nT oa:=λm hm=>by
   unfold ofM at hm;rw[hgi]at hm;exact List.mem_flatMap.2 ⟨_,by rw[<- hb.ps];exact getElem_mem hi,hm⟩
  have alq:(ofM nT oa y.ps[i].name).length<=1000000:=by
   unfold ofM;rw[hgi];show(mi nT y.ps[i]).length<=_;rw[AR aQ];have:(aE nT y.ps[i].conds).length<=cS nT oa:=by
    unfold cS;exact JY (λq:Prod=>(aE nT q.conds).length) (by rw[<- hb.ps];exact getElem_mem hi)
   omega
  refine(Ax f7 .sh _ _ (by omega) (λm hm=>nE m (eJ m hm))).call (λ_=>?_) (λaQ=>absurd eof aQ);refine⟨_,rfl,ab.f rfl ?_⟩;refine ZW (by omega) hgi 17 (by omega) h7 λa1 c1 a2 c2 u8 h8=>⟨_,_,_,_,_,_,_,_,rfl,ab.f rfl ?_⟩;refine aa.view (IA:=[.agg [pS y.ps[i].name,.list 7 .sh (y.ps[i].conds.map ae.pv),.list 19 .sh (y.ps[i].bk.map cT.pv)],.agg [pS y.ps[i].name,.list 7 .sh (y.ps[i].conds.map ae.pv),.list 19 .sh (y.ps[i].bk.map cT.pv)]]) (ab_ .sh .sh .sh .sh y.ps[i] y.ps[i] hpi.sk (by omega) (by omega)) rfl (λe p q hp hq=>?_) (λp ⟨q,e,_⟩=>by rw[e];rfl) ?_
  ·match e with
   |0=>simp only[List.getElem?_cons_zero,Option.some.injEq]at hp hq;subst hp hq;exact⟨.same _,rfl⟩
   |1=>
    simp only[List.getElem?_cons_zero,List.getElem?_cons_succ,Option.some.injEq]at hp hq;subst hp hq;obtain⟨ν,hν,ag6⟩:=h8.mem _ (mem_cons_self ..);refine⟨gy.agg rfl rfl λe c d hc hd=>?_,rfl⟩
    match e with
    |0=>simp at hc hd;subst hc hd;exact .same _
    |1=>simp at hc hd;subst hc hd;exact hν.view ag6
    |2=>simp at hc hd;subst hc hd;exact cA.view 1 h8 rfl (La _) (MT _)
    |e+3=>simp at hc
   |e+2=>simp at hp
  ·rintro _ ⟨q,rfl,hq⟩;obtain rfl:q=true:=hq.2 rfl;refine⟨_,rfl,ab.f rfl ?_⟩;exact ZR y.ps[i].name 16 y.ps[i] (by omega) hpi.sk (by omega) h8 λu9 h9=>⟨rfl,av _ h9⟩
 ·rintro u5 next h5
  obtain⟨f5,h6⟩:=bS.open_ (Ow.swap h5);refine⟨_,_,h6.rd 0 rfl (by simp),ab.f (by simp) ?_⟩;exact OM (by omega) hb h5 λu6 h6=>⟨_,rfl,ab.t rfl (Lr _)⟩
set_option maxRecDepth 100000
theorem Ur:ownKnob prog.godebug=none:=by kernel_rfl
theorem Az:laidOutB prog=true:=by kernel_rfl
section
variable {w:World}
theorem zX:prog.cellsOf 3=1:=by kernel_rfl
theorem Ev:prog.cellsOf 4=1:=by kernel_rfl
theorem ni:prog.cellsOf 9=1:=by kernel_rfl
theorem zW:prog.cellsOf 60=3:=by kernel_rfl
theorem XZ:prog.cellsOf 147=1:=by kernel_rfl
theorem PH:prog.cellsOf 149=6:=by kernel_rfl
theorem Ly:prog.cellsOf 26=1:=by kernel_rfl
theorem Jt:prog.cellsOf 28=7:=by kernel_rfl
theorem Lz:prog.cellsOf 22=1:=by kernel_rfl
theorem Dm(n:Nat)(cs:List Value)(h:Reads prog w n 60 cs):∃s:Sym,bq (jT w) s.pv cs/\True:=by
 obtain⟨m,rfl,hl,hf⟩:=h.struct underlying60;rw[zW]at hl;obtain⟨i0,e0,_⟩:=(gF hf 0 0 zX rfl rfl rfl).JN underlying3;obtain⟨i1,e1,_⟩:=(gF hf 1 1 ni rfl rfl rfl).Nz underlying9;obtain⟨i2,e2,_⟩:=(gF hf 2 2 zX rfl rfl rfl).JN underlying3
 match cs,hl with
 |[x0,x1,x2],_=>exact⟨⟨_,_,_⟩,(e0.append e1).append e2,trivial⟩
theorem Yj(n:Nat)(cs:List Value)(h:Reads prog w n 147 cs):∃l:List Sym,bq (jT w) [.list 3 .sh (l.map Sym.pv)] cs/\(∀s∈l,True)/\l.length<=maxLen:=
 h.Dr underlying147 zW (by omega) λm cs _ hr=>Dm m cs hr
theorem Yh(n:Nat)(cs:List Value)(h:Reads prog w n 149 cs):∃t:Test,bq (jT w) t.pv cs/\True:=by
 obtain⟨m,rfl,hl,hf⟩:=h.struct underlying149;rw[PH]at hl;obtain⟨i0,e0,_⟩:=(gF hf 0 0 zX rfl rfl rfl).JN underlying3;obtain⟨i1,e1,_⟩:=(gF hf 1 1 ni rfl rfl rfl).Nz underlying9;obtain⟨s,e2,_⟩:=Dm _ _ (gF hf 2 2 zW rfl rfl rfl);obtain⟨l,e3,_⟩:=Yj _ _ (gF hf 3 5 XZ rfl rfl rfl)
 match cs,hl with
 |[x0,x1,x2,x3,x4,x5],_=>exact⟨⟨_,_,s,l⟩,((e0.append e1).append e2).append e3,trivial⟩
theorem LK(n:Nat)(cs:List Value)(h:Reads prog w n 26 cs):∃l:List Test,bq (jT w) [.list 6 .sh (l.map Test.pv)] cs/\(∀s∈l,True)/\l.length<=maxLen:=
 h.Dr underlying26 PH (by omega) λm cs _ hr=>Yh m cs hr
theorem Yo:∀(n:Nat) (cs:List Value),Reads prog w n 28 cs->∃c:ae,bq (jT w) c.pv cs/\True:=by
 intro n;induction n using Nat.strongRecOn with
 |ind n ih=>
  intro cs h;obtain⟨m,rfl,hl,hf⟩:=h.struct underlying28;rw[Jt]at hl;obtain⟨i0,e0,_⟩:=(gF hf 0 0 zX rfl rfl rfl).JN underlying3;obtain⟨i1,e1⟩:=(gF hf 1 1 Ev rfl rfl rfl).pbool underlying4;obtain⟨i2,e2,_⟩:=(gF hf 2 2 ni rfl rfl rfl).Nz underlying9;obtain⟨a3,e3,_⟩:=LK _ _ (gF hf 3 3 Ly rfl rfl rfl);obtain⟨a4,e4,_⟩:=LK _ _ (gF hf 4 4 Ly rfl rfl rfl);obtain⟨i5,e5⟩:=(gF hf 5 5 Ev rfl rfl rfl).pbool underlying4;obtain⟨l,e6,_⟩:=(gF hf 6 6 Lz rfl rfl rfl).Dr (pv:=ae.pv) (Q:=λ_=>True) underlying22 Jt (by omega) λm' Oy hm hr=>ih m' (by omega) Oy hr
  match cs,hl with
  |[x0,x1,x2,x3,x4,x5,x6],_=>
   refine⟨.mk i0 i1 i2 a3 a4 i5 l,?_,trivial⟩;rw[ae.cH];exact(((((e0.append e1).append e2).append e3).append e4).append e5).append e6
theorem Uo(n:Nat)(cs:List Value)(h:Reads prog w n 22 cs):∃l:List ae,bq (jT w) [.list 7 .sh (l.map ae.pv)] cs/\(∀s∈l,True)/\l.length<=maxLen:=
 h.Dr underlying22 Jt (by omega) λm cs _ hr=>Yo m cs hr
end
section
variable {w:World}
theorem zY:prog.cellsOf 62=4:=by kernel_rfl
theorem PI:prog.cellsOf 64=9:=by kernel_rfl
theorem PM:prog.cellsOf 66=19:=by kernel_rfl
theorem TZ:prog.cellsOf 23=1:=by kernel_rfl
theorem PJ:prog.cellsOf 25=3:=by kernel_rfl
theorem EH(n:Nat)(cs:List Value)(h:Reads prog w n 62 cs):∃s:Atom,bq (jT w) s.pv cs/\True:=by
 obtain⟨m,rfl,hl,hf⟩:=h.struct underlying62;rw[zY]at hl;obtain⟨i0,e0,_⟩:=(gF hf 0 0 ni rfl rfl rfl).Nz underlying9;obtain⟨s,e1,_⟩:=Dm _ _ (gF hf 1 1 zW rfl rfl rfl)
 match cs,hl with
 |[x0,x1,x2,x3],_=>exact⟨⟨_,s⟩,e0.append e1,trivial⟩
theorem Yi(n:Nat)(cs:List Value)(h:Reads prog w n 64 cs):∃s:Term,bq (jT w) s.pv cs/\True:=by
 obtain⟨m,rfl,hl,hf⟩:=h.struct underlying64;rw[PI]at hl;obtain⟨i0,e0,_⟩:=(gF hf 0 0 zX rfl rfl rfl).JN underlying3;obtain⟨a,e1,_⟩:=EH _ _ (gF hf 1 1 zY rfl rfl rfl);obtain⟨b,e2,_⟩:=EH _ _ (gF hf 2 5 zY rfl rfl rfl)
 match cs,hl with
 |[x0,x1,x2,x3,x4,x5,x6,x7,x8],_=>exact⟨⟨_,a,b⟩,(e0.append e1).append e2,trivial⟩
theorem Yp(n:Nat)(cs:List Value)(h:Reads prog w n 66 cs):∃s:cT,bq (jT w) s.pv cs/\True:=by
 obtain⟨m,rfl,hl,hf⟩:=h.struct underlying66;rw[PM]at hl;obtain⟨i0,e0,_⟩:=(gF hf 0 0 ni rfl rfl rfl).Nz underlying9;obtain⟨a,e1,_⟩:=EH _ _ (gF hf 1 1 zY rfl rfl rfl);obtain⟨t,e2,_⟩:=Yi _ _ (gF hf 2 5 PI rfl rfl rfl);obtain⟨i3,e3,_⟩:=(gF hf 3 14 zX rfl rfl rfl).JN underlying3;obtain⟨o,e4,_⟩:=EH _ _ (gF hf 4 15 zY rfl rfl rfl)
 match cs,hl with
 |[x0,x1,x2,x3,x4,x5,x6,x7,x8,x9,x10,x11,x12,x13,x14,x15,x16,x17,x18],_=>exact⟨⟨_,a,t,_,o⟩,(((e0.append e1).append e2).append e3).append e4,trivial⟩
theorem Yk(n:Nat)(cs:List Value)(h:Reads prog w n 25 cs):∃p:aP.Prod,bq (jT w) p.pv cs/\True:=by
 obtain⟨m,rfl,hl,hf⟩:=h.struct underlying25;rw[PJ]at hl;obtain⟨i0,e0,_⟩:=(gF hf 0 0 ni rfl rfl rfl).Nz underlying9;obtain⟨c,e1,_⟩:=Uo _ _ (gF hf 1 1 Lz rfl rfl rfl);obtain⟨a,e2,_⟩:=(gF hf 2 2 TZ rfl rfl rfl).Dr (pv:=cT.pv) (Q:=λ_=>True) underlying23 PM (by omega) λm' Oy hm hr=>Yp m' Oy hr
 match cs,hl with
 |[x0,x1,x2],_=>exact⟨⟨_,c,a⟩,(e0.append e1).append e2,trivial⟩
end
end Go.Proofs.YtbodiiomcfgokaaGreat
