import Derived.Test.YtbodiiomcfgokaaGreatB13
import Derived.Test.YtbodiiomcfgokaaGreatRows
set_option linter.all false
namespace Go.Proofs.YtbodiiomcfgokaaGreat
open Go.Proofs.Tryz Go.aK Go.RowKit K6
theorem Q_{c:ae}{d:Int}(h:bQ c d=0):c.kind=1\/c.kind=2\/c.kind=3:=by
 by_cases h3:c.kind=3
 ·exact .inr (.inr h3)
 ·by_cases h1:c.kind=1
  ·exact .inl h1
  ·by_cases h2:c.kind=2
   ·exact .inr (.inl h2)
   ·unfold bQ at h
    have e3:(c.kind == 3)=false:=by simpa using h3
    have e1:(c.kind == 1)=false:=by simpa using h1
    have e2:(c.kind == 2)=false:=by simpa using h2
    rw[e3,e1,e2]at h;cases h
mutual
theorem Tu:∀(c:ae) (a d:Nat),(∀x∈iN c a d,bQ x.2.2 x.2.1=0)->Tv c
 | .mk k g i at_ v ac cs,a,d,h=>
   ⟨Q_ (h (a,d,.mk k g i at_ v ac cs) (by simp[iN])),Dm cs (a+1) (d+1) λx hx=>h x (by simp[iN,hx])⟩
theorem Dm:∀(l:List ae) (a d:Nat),(∀x∈dI l a d,bQ x.2.2 x.2.1=0)->Dp l
 |[],_,_,_=>trivial
 |c::cs,a,d,h=>⟨Tu c a d λx hx=>h x (by simp[dI,hx]),Dm cs (a+aR c) d λx hx=>h x (by simp[dI,hx])⟩
end
theorem l_.knd{p:Prod}(h:l_ p):Dp p.conds:=Dm _ 0 0 (CC (GI h.chk).1)
theorem Jg{es:List af}{B:Int}(hB:1<=B){l:List ae}(h:¬du B es l):(((au es l).length:Nat):Int)<=B:=by
 rcases List.eq_nil_or_concat l with rfl|⟨m,c,e⟩
 ·simp[au];exact hB
 ·have e:l=m++[c]:=by rw[e];simp
  subst e
  rw[cV,<- jI]
  refine Int.not_lt.1 λcz=>h ⟨m.length,by simp,0,?_⟩
  rw[List.getElem_append_right (Nat.le_refl _),List.take_left]
  simpa using cz
theorem VM{q:Bool}{size bytes:Nat}{rows new:Lq}{μ:Mem}{K:Fl->Mem->Prop}(h:aV false size bytes .nil rows new μ K):aV q size bytes .nil rows new μ K:=by
 cases q<;>exact h
theorem Ow.Nz{q:Bool}{L:List aY}{μ:Mem}{size bytes:Nat}{new:Lq}{K:Fl->Mem->Prop}(hO:Ow L μ)(hb:new.length*bytes<=140737488355328)(tN:new.length<4611686018427387904)
  (hk:∀lT μ',Ow (eH lT new.length size::L) μ'->K lT μ'):aV q size bytes .nil [] new μ K:=
 VM ((hO.nil (n:=0) (.inl rfl)).app rfl (by simpa using hb) (by simpa using tN) λlT μ' h=>hk lT μ' (by simpa using h))
theorem Xz{T κ:Type}{ck:κ->κ->Int}{key:T->κ}{L:List T}{x:T}{i:Nat}(hi:i<=L.length)(Bw:∀(j:Nat) (h:j<L.length),j<i->ck (key L[j]) (key x)<0)(Kr:∀(j:Nat) (h:j<L.length),i<=j->0<ck (key L[j]) (key x)):L.take i++x::L.drop i=bc ck key x L:=by
 unfold bc
 rw[oY (k:=i) hi (λj h hj=>by simp[Db,Bw j h hj]) (λj h hj=>by have:=Kr j h hj;simp[Db];omega),
  sU (k:=i) hi (λj h hj=>by have:=Bw j h hj;simp[HT];omega) (λj h hj=>by simp[HT,Kr j h hj])]
structure tq where
 B:Int
 M:Int
 ps:List Prod
 es:List af
 tk:List (List dr)
 mo:List Nat
abbrev RFl:=Fl×Fl×Fl×Fl
@[reducible] def oI(ts:List dr):List PV:=[.list 3 .sh (ts.map dr.pv)]
@[reducible] def tq.pv(x:tq)(f:RFl):List PV:=[pI x.B,pI x.M,.list 3 f.1 (x.ps.map Prod.pv),.list 12 f.2.1 (x.es.map af.pv),.list 1 f.2.2.1 (x.tk.map oI),.list 1 f.2.2.2 (x.mo.map jv)]
def aW(r:Nat)(x:tq):aY:=λμ=>∃f,Pt r 47 (x.pv f) μ
theorem aW.open_{r:Nat}{x:tq}{L:List aY}{μ:Mem}(h:Ow (aW r x::L) μ):∃f,Ow (Pt r 47 (x.pv f)::L) μ:=Ow.ex h
theorem aW.shut{r:Nat}{x:tq}{f:RFl}{L:List aY}{μ:Mem}(h:Ow (Pt r 47 (x.pv f)::L) μ):Ow (aW r x::L) μ:=h.imp λ_ hν=>⟨f,hν⟩
def qA(es:List af)(p:Prod):List dr:=EP (c_ es p.conds [ub])
def oP(es:List af)(p:Prod):Nat:=bz (jl es p.conds)
abbrev xu(es:List af):Prop:=es.Pairwise λa b=>a.tag≠b.tag
theorem FF{es:List af}(h:xu es)(l:List ae):neT (c_ es l [ub]):=by
 have:=dv h l
 rw[<- gC,List.pairwise_map]at this
 exact this
theorem Sg{es:List af}(h:xu es)(p:Prod):(qA es p).map dr.tok=cR (au es p.conds):=by
 unfold qA;rw[Su (FF h _),gC]
theorem xB{es:List af}(h:xu es)(p:Prod):(qA es p).length=(au es p.conds).length:=by
 have:=congrArg List.length (Sg h p)
 rw[List.length_map,gQ (dv h _)]at this
 exact this
structure jf(x:tq):Prop where
 b:1<=x.B/\x.B<=1024
 m:x.M<=1024
 si:ca aI cM x.ps
 rE:∀p∈x.ps,l_ p
 Bg:x.ps.length<=100
 en:x.es.length<=100000
 ne:xu x.es
 tk:x.tk=x.ps.map (qA x.es)
 mo:x.mo=x.ps.map (oP x.es)
 le:∀p∈x.ps,¬du x.B x.es p.conds
 sum:((bK x.es x.ps:Nat):Int)<=x.M
theorem rY.new{b:Nat}{R:Int}{L:List aY}{μ:Mem}(h:Ow (Pt b 198 [pV none 0 0,pI R,pB false]::L) μ):Ow (rY b R false 0 (λ_=>0)::L) μ:=rY.shut (iW.nil _ _ h).swap
theorem aab{es:List af}{B:Int}(hB:0<=B/\B<=1000000)(RS:es.length<=1000000){l:List ae}(aO:ud l)(QB:Dp l)(hs:aj l<=16){b:Nat}(fl fe:Fl){L:List aY}{μ:Mem}(hO:Ow (Pt b 198 [pV none 0 0,pI B,pB false]::L) μ){K:Kq}
  (hk:∀f o N cv out μ',(o=false->¬du B es l/\out=c_ es l [ub]/\bz ((List.range N).map cv)=bz (jl es l))->(o=true->du B es l)->N<=16->out.length<=1000001->(∀t∈out,t.tags.length<=900000)->Ow (rY b B o N cv::L) μ'->K (.list 3 f (out.map dr.pv)) μ'):
  aa prog 113 [.list 7 fl (l.map ae.pv),pI 0,.list 3 .nr [[.list 1 .sh [],.list 4 .sh [],pI 0]],.list 12 fe (es.map af.pv),pP b 0] μ K:=by
 refine akc hB RS l fl .nr fe 0 0 b (λ_=>0) [ub] aO QB (by omega) (Nat.le_refl _) (λ_ _=>rfl) (by simp) (λt ht=>?_) (rY.new hO) λf o N cv out μ' hg hN hz hl ht Uu=>hk f o N cv out μ' (λho=>?_) (λho=>?_) (by omega) hl ht Uu
 ·simp only[List.mem_singleton]at ht;subst ht;simp[ub];omega
 ·rcases hg with⟨_,h1,rfl,h3⟩|⟨h,_⟩
  ·refine⟨λAR=>?_,h3,?_⟩
   ·obtain⟨j,hj⟩:=(Hr hB.1 l).2 AR
    have:=h1 j
    have:((cL es l [[]] j:Nat):Int)<=B:=this
    omega
   ·have e:(λj=>(λ_=>0) j+sh 0 (cL es l (nj [ub])) j)=cL es l [[]]:=by
     funext j;rw[Hd];exact Nat.zero_add _
    rw[e]at hz |-
    rw[wo]
    exact MI hz λj hj=>Iq es l _ j hj
  ·rw[ho]at h;cases h
 ·rcases hg with⟨h,_⟩|⟨_,j,hj⟩
  ·rw[ho]at h;cases h
  ·exact(Hr hB.1 l).1 ⟨j,hj⟩
section
variable {r:Nat} {x:tq}
theorem Nq(s:ByteArray)(hn:x.ps.length<=1000000){L:List aY}{μ:Mem}(hO:Ow (aW r x::L) μ){K:Kq}(h0:(∀p∈x.ps,p.name≠s)->K (.aD [pI 0,pB false]) μ)(h1:∀(i:Nat) (h:i<x.ps.length),x.ps[i].name=s->K (.aD [pI (i:Nat),pB true]) μ):
  aa prog 86 [pP r 0,pS s] μ K:=by
 obtain⟨f,hO⟩:=aW.open_ hO
 refine rr.c ?_
 refine ak.each (n:=x.ps.length) (by omega) (λk u=>(∀p∈x.ps.take k,p.name≠s)/\u=μ) ⟨by simp,rfl⟩ ?_ ?_
 ·rintro k u next hk ⟨hn,rfl⟩ ar
  refine⟨_,_,hO.rd 0 rfl (by simp),ab.t (by simpa using hk) ⟨_,_,hO.rd 0 rfl (by simp),by omega,_,aw hk,_,rfl,ab.mk (λh=>h1 k hk (bI.1 h)) (λh=>ar _ ⟨λp hp=>?_,rfl⟩)⟩⟩
  rcases(dg hk).1 hp with hp|rfl
  ·exact hn p hp
  ·exact sm.1 h
 ·rintro u next ⟨hn,rfl⟩
  rw[List.take_length]at hn
  exact⟨_,_,hO.rd 0 rfl (by simp),ab.f (by simp) (h0 hn)⟩
theorem UT(hB:0<=x.B/\x.B<=1000000)(RS:x.es.length<=100000)(aT:xu x.es){p:Prod}(hp:l_ p)(fc fa:Fl){L:List aY}{μ:Mem}(hO:Ow (aW r x::L) μ){K:Kq}
  (hk:∀(out:List dr) (eK:Nat) ok μ',(ok=true->¬du x.B x.es p.conds/\out=qA x.es p/\eK=oP x.es p)->(ok=false->du x.B x.es p.conds)->out.length<=1000001->Ow (aW r x::L) μ'->K (.aD [.list 3 .sh (out.map dr.pv),pI (eK:Nat),pB ok]) μ'):
  aa prog 110 [pP r 0,.agg [pS p.name,.list 7 fc (p.conds.map ae.pv),.list 19 fa (p.bp.map dh.pv)]] μ K:=by
 obtain⟨f,hO⟩:=aW.open_ hO
 obtain⟨g1,_,_,g4,_⟩:=hp.facts
 refine rp.c ?_
 refine⟨_,_,hO.rd 0 rfl (by simp),_,hO.rd 0 rfl (by simp),?_⟩
 refine tv.c λb hb=>?_
 refine aab hB (by omega) g1 hp.knd g4 .sh _ (hO.new _ _ hb) λf1 o N cv out u1 h1 h2 hN hl ht sd=>⟨_,_,rfl,_,_,_,rfl,?_⟩
 obtain⟨a,c,jd⟩:=rY.open_ sd
 refine ak.dm (n:=N) (by omega) (λk y u=>y=((bz ((List.range k).map cv):Nat):Int)/\u=u1) ⟨rfl,rfl⟩ ?_ ?_
 ·rintro k _ u next bW ⟨rfl,rfl⟩ ar
  have ED:k<(wq N cv).length:=by simpa using bW
  obtain⟨b1,rfl,fB,_⟩:=iW.at_ 1 jd rfl (zR N cv) (j:=k) ED
  refine⟨_,_,_,jd.rd 0 rfl (by simp),ab.t (by simpa using bW) ⟨_,_,_,jd.rd 0 rfl (by simp),by omega,by omega,((cv k:Nat):Int),?_,ar _ _ ⟨?_,rfl⟩⟩⟩
  ·rw[Int.toNat_natCast]
   have:=fB 0 1 (by omega)
   rw[List.getElem_map,List.getElem_range]at this
   exact this
  ·rw[List.range_succ,List.map_append,cl]
   show(if((cv k:Nat):Int)>((bz ((List.range k).map cv):Nat):Int)then((cv k:Nat):Int)else((bz ((List.range k).map cv):Nat):Int))=((max (bz ((List.range k).map cv)) (bz [cv k]):Nat):Int)
   rw[jZ]
   split<;>omega
 ·rintro _ u next ⟨rfl,rfl⟩
  refine⟨_,_,_,jd.rd 0 rfl (by simp),ab.f (by simp) ⟨_,jd.rd 0 rfl (by simp),?_⟩⟩
  refine(Va f1 out (by omega) (λt h=>by have:=ht t h;omega)).q λq hq=>?_
  obtain⟨ahW,rfl,h3,h4⟩:=hq
  refine⟨_,_,rfl,?_⟩
  rw[Mem.oM]
  refine hk ahW _ _ u (λho=>?_) (λho=>h2 (by simpa using ho)) (by omega) (aW.shut (jd.drop.drop))
  obtain⟨e1,e2,e3⟩:=h1 (by simpa using ho)
  refine⟨e1,?_,e3⟩
  have h5:=h4 (by rw[e2];exact FF aT _)
  rw[h5,e2];rfl
end
theorem PD{es:List af}{ps:List Prod}{i:Nat}(hi:i<ps.length):bK es (ps.take (i+1))=bK es (ps.take i)+(au es ps[i].conds).length:=by
 unfold bK;rw[dT hi,List.sum_append];simp
section
variable {r:Nat} {x:tq}
theorem Vw(hb:1<=x.B/\x.B<=1024)(hp:∀p∈x.ps,l_ p)(hf:x.ps.length<=100)(RS:x.es.length<=100000)(aT:xu x.es){L:List aY}{μ:Mem}(hO:Ow (aW r x::L) μ){K:Kq}
  (h25:(∃p∈x.ps,du x.B x.es p.conds)->∀μ',Ow (aW r x::L) μ'->K (pI 25) μ')
  (h26:(¬ ∃p∈x.ps,du x.B x.es p.conds)->x.M<((bK x.es x.ps:Nat):Int)->∀μ',Ow (aW r x::L) μ'->K (pI 26) μ')
  (h0:(¬ ∃p∈x.ps,du x.B x.es p.conds)->((bK x.es x.ps:Nat):Int)<=x.M->∀μ',Ow (aW r ⟨x.B,x.M,x.ps,x.es,x.ps.map (qA x.es),x.ps.map (oP x.es)⟩::L) μ'->K (pI 0) μ'):
  aa prog 102 [pP r 0] μ K:=by
 refine qv.c ?_
 refine⟨λm s u=>∃i,s.2.2.2.2=((i:Nat):Int)/\i<=x.ps.length/\m=x.ps.length-i/\∃(tk:List (List dr)) (mo:List Nat),s.1.2=tk.map oI/\s.2.1.2=mo.map jv/\tk.length=i/\mo.length=i/\s.2.2.1=(((tk.map List.length).sum:Nat):Int)/\(tk.map List.length).sum<=1000001*i/\(s.2.2.2.1=true->∃p∈x.ps,du x.B x.es p.conds)/\
  (s.2.2.2.1=false->tk=(x.ps.take i).map (qA x.es)/\mo=(x.ps.take i).map (oP x.es)/\(tk.map List.length).sum=bK x.es (x.ps.take i)/\∀p∈x.ps.take i,¬du x.B x.es p.conds)/\Ow (eH s.1.1 i 1::eH s.2.1.1 i 1::aW r x::L) u,
  ⟨_,0,rfl,by omega,rfl,[],[],rfl,rfl,rfl,rfl,rfl,by simp,(λh=>by cases h),λ_=>⟨rfl,rfl,rfl,by simp⟩,(hO.nil (.inl rfl)).nil (.inl rfl)⟩,?_⟩
 rintro m ⟨⟨f1,_⟩,⟨f2,_⟩,_,ov,_⟩ u ⟨i,rfl,hi,rfl,tk,mo,rfl,rfl,zC,nR,rfl,dQ,AR,cm,hO⟩
 dsimp only at AR cm hO |-
 obtain⟨f,sd⟩:=aW.open_ (Ow.ord [2] hO)
 refine⟨_,_,sd.rd 0 rfl (by simp),ab.mk (λh=>?_) (λh=>?_)⟩
 ·have h:i<x.ps.length:=by simpa using h
  have hm:=List.getElem_mem h
  refine⟨_,_,sd.rd 0 rfl (by simp),by omega,_,aw h,_,_,_,_,_,rfl,?_⟩
  refine UT (r:=r) (x:=x) (by omega) RS aT (hp _ hm) .sh .sh (Ow.ord [2] hO) λout eK ok u1 w1 w2 w3 jd=>⟨_,_,_,_,rfl,?_⟩
  refine⟨λs u'=>s=(ov|| !ok)/\u'=u1,ab.mk (λh=>by subst h;exact⟨rfl,rfl⟩) (λh=>by subst h;exact⟨rfl,rfl⟩),?_⟩
  rintro _ _ ⟨rfl,rfl⟩
  have Fe:Ow (eH f1 i 1::eH f2 i 1::aW r x::L) _:=Ow.ord [1,1,0] jd
  refine Fe.app (by rw[List.length_map,zC]) (by simp;omega) (by simp;omega) λf3 u2 uo=>?_
  refine(Ow.swap uo).app (by rw[List.length_map,nR]) (by simp;omega) (by simp;omega) λf4 u3 zI=>?_
  have e1:((tk++[out]).map List.length).sum=(tk.map List.length).sum+out.length:=by rw[List.map_append,List.sum_append];simp
  refine⟨x.ps.length-(i+1),by omega,i+1,by rw[az (by omega) (by omega)];rfl,by omega,rfl,tk++[out],mo++[eK],by rw[List.map_append];rfl,by rw[List.map_append];rfl,by simp[zC],by simp[nR],?_,by rw[e1];omega,λho=>?_,λho=>?_,Ow.swap zI⟩
  ·rw[e1,List.length_map,az (by omega) (by omega)];rfl
  ·rcases Bool.or_eq_true_iff.1 ho with h1|h1
   ·exact AR h1
   ·exact⟨_,hm,w2 (by simpa using h1)⟩
  ·obtain⟨h1,h2⟩:=Bool.or_eq_false_iff.1 ho
   obtain⟨n1,n2,n3,n4⟩:=cm h1
   obtain⟨v1,rfl,rfl⟩:=w1 (by simpa using h2)
   refine⟨by rw[n1,dT h],by rw[n2,dT h],by rw[e1,n3,PD h,xB aT],λp AQ=>?_⟩
   rcases(dg h).1 AQ with AQ|rfl
   ·exact n4 p AQ
   ·exact v1
 ·have h:i=x.ps.length:=by simp at h;omega
  subst h
  rw[List.take_length]at cm
  have jd:=Ow.ord [2] hO
  refine ab.mk (λho=>h25 (AR ho) _ (jd.tail λ_ h=>h.drop.drop)) (λho=>⟨_,sd.rd 0 rfl (by simp),?_⟩)
  obtain⟨n1,n2,n3,n4⟩:=cm ho
  have hn:¬ ∃p∈x.ps,du x.B x.es p.conds:=λ⟨p,AQ,hv⟩=>n4 p AQ hv
  rw[n3]
  refine ab.mk (λhs=>h26 hn (by simpa using hs) _ (jd.tail λ_ h=>h.drop.drop)) (λhs=>?_)
  dsimp only[nP,nn,aF]
  refine sd.st 0 rfl (by simp) λu1 h1=>h1.st 0 rfl (by simp[dN]) λu2 h2=>h0 hn (by simpa using hs) _ ?_
  subst n1 n2
  exact(aW.shut (x:=⟨x.B,x.M,x.ps,x.es,x.ps.map (qA x.es),x.ps.map (oP x.es)⟩) (f:=(f.1,f.2.1,f1,f2)) h2).tail λ_ h=>h.drop.drop
theorem jf.add(h:jf x){p:Prod}(hp:l_ p)(hn:aL aI cM p.name x.ps=none)(hv:¬du x.B x.es p.conds)(hs:((bK x.es x.ps+(au x.es p.conds).length:Nat):Int)<=x.M)(hl:x.ps.length+1<=100):jf ⟨x.B,x.M,bc aI cM p x.ps,x.es,(bc aI cM p x.ps).map (qA x.es),(bc aI cM p x.ps).map (oP x.es)⟩:=by
 have mu:=nc (ck:=aI) (key:=cM) aP (L:=x.ps) (x:=p) hn
 have gw:∀q∈bc aI cM p x.ps,q=p\/q∈x.ps:=λq hq=>by rw[mu.mem_iff]at hq;simpa using hq
 refine⟨h.b,h.m,h.si.ins aP p,λq hq=>?_,by show(bc aI cM p x.ps).length<=100;rw[mu.length_eq];simpa using hl,h.en,h.ne,rfl,rfl,λq hq=>?_,?_⟩
 ·rcases gw q hq with rfl|hq
  ·exact hp
  ·exact h.rE q hq
 ·rcases gw q hq with rfl|hq
  ·exact hv
  ·exact h.le q hq
 ·show((bK x.es (bc aI cM p x.ps):Nat):Int)<=x.M
  rw[pX mu]
  unfold bK at hs |-
  simp only[List.map_cons,List.sum_cons]
  omega
theorem acy(h:jf x)(hl:x.ps.length+1<=100)(fc fa:Fl)(p:Prod)(RQ:bD p.conds)(Gq:aj p.conds<=1000000)(RV:p.bp.length<=1000000){L:List aY}{μ:Mem}(hO:Ow (aW r x::L) μ){K:Kq}
  (hk:∀e qJ x' μ',mj x.B x.M x.es x.ps p e qJ->jf x'->x'.B=x.B->x'.M=x.M->x'.es=x.es->x'.ps=qJ->Ow (aW r x'::L) μ'->K (pI e) μ'):
  aa prog 42 [pP r 0,.agg [pS p.name,.list 7 fc (p.conds.map ae.pv),.list 19 fa (p.bp.map dh.pv)]] μ K:=by
 have ui:=h.Bg
 have hen:=h.en
 obtain⟨b1,b2⟩:=h.b
 refine sa.c ?_
 refine(Yv .sh .sh p RQ Gq RV).call ⟨_,_,rfl,ab.mk (λhc=>?_) (λhc=>?_)⟩
 ·exact hk _ _ x _ (.form (by simpa using hc)) h rfl rfl rfl rfl hO
 have hc:(cg p).2.1=0:=by simpa using hc
 have hp:l_ p:=⟨hc,RQ⟩
 refine Nq p.name (by omega) hO (λbU=>⟨_,_,rfl,ab.f rfl ?_⟩) λi hi he=>⟨_,_,rfl,ab.t rfl (hk _ _ x _ (.there hc (by
  cases hg:aL aI cM p.name x.ps with
  |none=>exact absurd he ((bx aP).1 hg _ (List.getElem_mem hi))
  |some q=>rfl)) h rfl rfl rfl rfl hO)⟩
 have hg:aL aI cM p.name x.ps=none:=(bx aP).2 bU
 refine UT (by omega) (by omega) h.ne hp .sh .sh hO λout eK ok u1 w1 w2 w3 sd=>⟨_,_,_,_,rfl,ab.mk (λho=>?_) (λho=>?_)⟩
 ·exact hk _ _ x _ (.dH hc hg (w2 (by simpa using ho))) h rfl rfl rfl rfl sd
 obtain⟨AR,rfl,rfl⟩:=w1 (by simpa using ho)
 have iB:=h.tk
 have hmo:=h.mo
 have zC:x.tk.length=x.ps.length:=by rw[iB,List.length_map]
 have zD:x.mo.length=x.ps.length:=by rw[hmo,List.length_map]
 have hlen:=λq=>xB h.ne q
 have anw:=Jg b1 AR
 have Zu:∀k,((x.tk.take k).map List.length).sum=bK x.es (x.ps.take k):=λk=>by
  rw[iB,<- List.map_take,List.map_map]
  unfold bK
  congr 1
  exact List.map_congr_left λq _=>hlen q
 have lM:∀k,bK x.es (x.ps.take k)<=1024:=λk=>by
  have h1:=h.sum
  have h2:bK x.es x.ps=bK x.es (x.ps.take k)+bK x.es (x.ps.drop k):=by
   unfold bK;rw[<- List.sum_append,<- List.map_append,List.take_append_drop]
  have h3:=h.m
  omega
 obtain⟨f,jd⟩:=aW.open_ sd
 refine ak.dm (n:=x.tk.length) (by omega) (λk y u=>y=(((qA x.es p).length+bK x.es (x.ps.take k):Nat):Int)/\u=u1) ⟨by simp[bK],rfl⟩ ?_ ?_
 ·rintro k _ u next bW ⟨rfl,rfl⟩ ar
  refine⟨_,_,jd.rd 0 rfl (by simp),ab.t (by simpa using bW) ⟨_,_,jd.rd 0 rfl (by simp),by omega,_,aw bW,_,_,rfl,ar _ _ ⟨?_,rfl⟩⟩⟩
  have h1:=Zu (k+1)
  rw[dT bW,List.sum_append,Zu k]at h1
  have h2:=lM (k+1)
  rw[List.length_map,hlen]
  simp only[List.sum_cons,List.sum_nil]at h1
  rw[az (by omega) (by omega)];omega
 rintro _ u next ⟨rfl,rfl⟩
 rw[zC,List.take_length,hlen]
 refine⟨_,_,jd.rd 0 rfl (by simp),ab.f (by simp[zC]) ⟨_,jd.rd 0 rfl (by simp),ab.mk (λhs=>?_) (λhs=>?_)⟩⟩
 ·have hs:x.M<(((au x.es p.conds).length+bK x.es x.ps:Nat):Int):=by simpa using hs
  exact hk _ _ x _ (.eK hc hg AR (by omega)) h rfl rfl rfl rfl sd
 have hs:(((au x.es p.conds).length+bK x.es x.ps:Nat):Int)<=x.M:=by simpa using hs
 refine⟨λs u'=>∃i:Nat,s=(i:Int)/\i<=x.ps.length/\(∀(j:Nat) (h:j<x.ps.length),j<i->aI x.ps[j].name p.name<0)/\(∀h:i<x.ps.length,¬aI x.ps[i].name p.name<0)/\u'=u,?_,?_⟩
 ·refine ak.each (n:=x.ps.length) (by omega) (λk u'=>(∀(j:Nat) (h:j<x.ps.length),j<k->aI x.ps[j].name p.name<0)/\u'=u) ⟨λj h1 h2=>by omega,rfl⟩ ?_ ?_
  ·rintro k u' iJ bW ⟨Bw,rfl⟩ gu
   refine⟨_,_,jd.rd 0 rfl (by simp),ab.t (by simpa using bW) ⟨_,_,jd.rd 0 rfl (by simp),by omega,_,aw bW,_,rfl,ab.mk (λhl=>gu _ ⟨λj h1 h2=>?_,rfl⟩) (λhl=>⟨k,rfl,by omega,Bw,λ_ cz=>?_,rfl⟩)⟩⟩
   ·by_cases e:j=k
    ·subst e;exact nY.2 hl
    ·exact Bw j h1 (by omega)
   ·rw[nY.1 cz]at hl;cases hl
  ·rintro u' iJ ⟨Bw,rfl⟩
   exact⟨_,_,jd.rd 0 rfl (by simp),ab.f (by simp) ⟨x.ps.length,rfl,by omega,Bw,λh=>absurd h (by omega),rfl⟩⟩
 ·rintro _ _ ⟨i,rfl,hi,Bw,rJ,rfl⟩
  have aby:x.ps.take i++p::x.ps.drop i=bc aI cM p x.ps:=by
   refine Xz hi Bw λj hj LI=>?_
   have aT:∀(q:Nat) (h:q<x.ps.length),aI x.ps[q].name p.name≠0:=λq hq e=>bU _ (List.getElem_mem hq) ((aP.zero _ _).1 e)
   have h1:0<aI (cM x.ps[i]) (cM p):=by
    have a1:=rJ (by omega)
    have a2:=aT i (by omega)
    show 0<aI x.ps[i].name p.name
    omega
   by_cases e:j=i
   ·subst e;exact h1
   ·have h2:=List.pairwise_iff_getElem.1 h.si i j (by omega) hj (by omega)
    have h3:=(aP.flip (cM p) (cM x.ps[i])).2 h1
    exact(aP.flip _ _).1 (aP.trans _ _ _ h3 h2)
  have e0:Int.toNat (0:Int)=0:=rfl
  have ei:Int.toNat ((i:Nat):Int)=i:=rfl
  refine⟨λs u'=>s.2=((x.ps.take i++[p]).map Prod.pv)/\Ow (eH s.1 (i+1) 3::Pt r 47 (x.pv f)::L) u',?_,?_⟩
  ·have go:∀{u:Mem} (O:Ow (Pt r 47 (x.pv f)::L) u),aV true 3 64 .nil [] (List.drop (Int.toNat (0:Int)) (List.take (Int.toNat ((i:Nat):Int)) (x.ps.map Prod.pv))) u λf98 Zb=>aV false 3 64 f98 ([]++(List.drop (Int.toNat (0:Int)) (List.take (Int.toNat ((i:Nat):Int)) (x.ps.map Prod.pv)))) [[pS p.name,.list 7 .sh (p.conds.map ae.pv),.list 19 .sh (p.bp.map dh.pv)]] Zb λf101 WB=>([]++List.drop (Int.toNat (0:Int)) (List.take (Int.toNat ((i:Nat):Int)) (x.ps.map Prod.pv)))++[[pS p.name,.list 7 .sh (p.conds.map ae.pv),.list 19 .sh (p.bp.map dh.pv)]]=((x.ps.take i++[p]).map Prod.pv)/\Ow (eH f101 (i+1) 3::Pt r 47 (x.pv f)::L) WB:=λO=>by
    rw[e0,ei,List.drop_zero,<- List.map_take,List.nil_append]
    have hl0:(x.ps.take i).length=i:=by rw[List.length_take];omega
    refine Ow.Nz O (by simp;omega) (by simp;omega) λf1 u1 h1=>h1.app rfl (by simp;omega) (by simp;omega) λf2 u2 h2=>⟨by rw[List.map_append];rfl,?_⟩
    rw[List.length_map,hl0]at h2;exact h2
   exact⟨_,_,jd.rd 0 rfl (by simp),by omega,by omega,by simpa using hi,go jd,go jd⟩
  ·rintro⟨f1,_⟩ u1 ⟨rfl,h1⟩
   dsimp only at h1 |-
   have hd:∀{T:Type} (l:List T) (g:T->List PV),l.length=x.ps.length->List.drop (Int.toNat ((i:Nat):Int)) (List.take (Int.toNat (((l.map g).length:Nat):Int)) (l.map g))=(l.drop i).map g:=λl g hl=>by
    rw[ei,Int.toNat_natCast,List.take_length,<- List.map_drop]
   have ht:∀{T:Type} (l:List T) (g:T->List PV),[]++List.drop (Int.toNat (0:Int)) (List.take (Int.toNat ((i:Nat):Int)) (l.map g))=(l.take i).map g:=λl g=>by
    rw[e0,ei,List.drop_zero,<- List.map_take,List.nil_append]
   have BU:∀{T:Type} (l:List T) (g:T->List PV),List.drop (Int.toNat (0:Int)) (List.take (Int.toNat ((i:Nat):Int)) (l.map g))=(l.take i).map g:=λl g=>by
    rw[e0,ei,List.drop_zero,<- List.map_take]
   have qJ:(x.ps.take i++[p]).map Prod.pv++(x.ps.drop i).map Prod.pv=(bc aI cM p x.ps).map Prod.pv:=by rw[<- aby,<- List.map_append];simp
   have xq:((x.tk.take i).map oI++[[.list 3 .sh ((qA x.es p).map dr.pv)]])++(x.tk.drop i).map oI=((bc aI cM p x.ps).map (qA x.es)).map oI:=by
    rw[<- aby,iB,<- List.map_take,<- List.map_drop];simp
   have mo':((x.mo.take i).map jv++[[pI ((oP x.es p:Nat):Int)]])++(x.mo.drop i).map jv=((bc aI cM p x.ps).map (oP x.es)).map jv:=by
    rw[<- aby,hmo,<- List.map_take,<- List.map_drop];simp
   have hl0:(x.ps.take i).length=i:=by rw[List.length_take];omega
   refine⟨_,_,h1.rd 1 rfl (by simp),by omega,by simpa using hi,by omega,?_⟩
   rw[hd x.ps Prod.pv rfl]
   refine h1.app (by simp[hl0];omega) (by simp;omega) (by simp;omega) λf2 u2 h2=>?_
   dsimp only[nP,nn,aF]
   refine h2.st 1 rfl (by simp) λu3 h3=>?_
   rw[qJ]at h3
   refine⟨_,_,h3.rd 1 rfl (by simp[dN]),by omega,by omega,by simpa[zC]using hi,?_⟩
   rw[ht x.tk oI,BU x.tk oI]
   have am0:(x.tk.take i).length=i:=by rw[List.length_take];omega
   refine Ow.Nz h3.drop (by simp;omega) (by simp;omega) λf3 u4 h4=>h4.app (by simp) (by simp;omega) (by simp;omega) λf4 u5 h5=>?_
   refine⟨_,_,h5.rd 1 rfl (by simp[dN]),by omega,by simpa[zC]using hi,by omega,?_⟩
   rw[hd x.tk oI zC]
   refine h5.app (by simp) (by simp;omega) (by simp;omega) λf5 u6 h6=>?_
   refine h6.st 1 rfl (by simp[dN]) λu7 h7=>?_
   rw[xq]at h7
   refine⟨_,_,h7.rd 1 rfl (by simp[dN]),by omega,by omega,by simpa[zD]using hi,?_⟩
   rw[ht x.mo jv,BU x.mo jv]
   refine Ow.Nz h7.drop (by simp;omega) (by simp;omega) λf6 u8 h8=>h8.app (by simp) (by simp;omega) (by simp;omega) λf7 u9 h9=>?_
   refine⟨_,_,h9.rd 1 rfl (by simp[dN]),by omega,by simpa[zD]using hi,by omega,?_⟩
   rw[hd x.mo jv zD]
   refine h9.app (by simp) (by simp;omega) (by simp;omega) λf8 u10 qk=>?_
   refine qk.st 1 rfl (by simp[dN]) λu11 A_=>?_
   rw[mo']at A_
   refine hk 0 (bc aI cM p x.ps) ⟨x.B,x.M,bc aI cM p x.ps,x.es,(bc aI cM p x.ps).map (qA x.es),(bc aI cM p x.ps).map (oP x.es)⟩ _ (.ok hc hg AR (by omega)) (h.add hp hg AR (by omega) hl) rfl rfl rfl rfl ?_
   exact aW.shut (x:=⟨x.B,x.M,bc aI cM p x.ps,x.es,(bc aI cM p x.ps).map (qA x.es),(bc aI cM p x.ps).map (oP x.es)⟩) (f:=(f2,f.2.1,f5,f8)) A_.drop
end
theorem Jm{es fs:List af}(h:es.Perm fs)(ps:List Prod):bK es ps=bK fs ps:=by
 unfold bK
 congr 1
 exact List.map_congr_left λp _=>(kX h p.conds).length_eq
section
variable {B M:Int} {es fs:List af} {ps:List Prod}
theorem mj.perm(hp:es.Perm fs){p:Prod}{e:Int}{qJ:List Prod}(h:mj B M fs ps p e qJ):mj B M es ps p e qJ:=by
 have ho:=qM hp (B:=B) (l:=p.conds)
 have hs:=Jm hp ps
 have hl:=(kX hp p.conds).length_eq
 cases h with
 |form h=>exact .form h
 |there h h2=>exact .there h h2
 |dH h h2 h3=>exact .dH h h2 (ho.2 h3)
 |eK h h2 h3 h4=>exact .eK h h2 (λh=>h3 (ho.1 h)) (by rw[hs,hl];exact h4)
 |ok h h2 h3 h4=>exact .ok h h2 (λh=>h3 (ho.1 h)) (by rw[hs,hl];exact h4)
theorem mj.uniq{p:Prod}{e e':Int}{fW ps2:List Prod}(h:mj B M es ps p e fW)(k:mj B M es ps p e' ps2):e=e'/\fW=ps2:=by
 cases h with
 |form h=>cases k with
  |form=>exact⟨rfl,rfl⟩
  |there k=>exact absurd k h
  |dH k=>exact absurd k h
  |eK k=>exact absurd k h
  |ok k=>exact absurd k h
 |there h h2=>cases k with
  |form k=>exact absurd h k
  |there=>exact⟨rfl,rfl⟩
  |dH _ k=>rw[k]at h2;cases h2
  |eK _ k=>rw[k]at h2;cases h2
  |ok _ k=>rw[k]at h2;cases h2
 |dH h h2 h3=>cases k with
  |form k=>exact absurd h k
  |there _ k=>rw[h2]at k;cases k
  |dH=>exact⟨rfl,rfl⟩
  |eK _ _ k=>exact absurd h3 k
  |ok _ _ k=>exact absurd h3 k
 |eK h h2 h3 h4=>cases k with
  |form k=>exact absurd h k
  |there _ k=>rw[h2]at k;cases k
  |dH _ _ k=>exact absurd k h3
  |eK=>exact⟨rfl,rfl⟩
  |ok _ _ _ k=>omega
 |ok h h2 h3 h4=>cases k with
  |form k=>exact absurd h k
  |there _ k=>rw[h2]at k;cases k
  |dH _ _ k=>exact absurd k h3
  |eK _ _ _ k=>omega
  |ok=>exact⟨rfl,rfl⟩
theorem Ie(hp:es.Perm fs){d:List Int}:eN es d↔eN fs d:=by
 unfold eN;simp only[hp.mem_iff]
theorem Lk(hp:es.Perm fs){a:List af}{d:List Int}:fi es a d↔fi fs a d:=by
 unfold fi;simp only[hp.mem_iff]
theorem Ry(hp:es.Perm fs){a:List af}{d:List Int}{l:List af}:oC es a d l↔oC fs a d l:=by
 unfold oC;simp only[hp.mem_iff]
variable {add:List af} {drop:List Int}
theorem iA.same(hp:es.Perm fs){e e':Int}{fw RY:List af}(h:iA B M es ps add drop e fw)(k:iA B M fs ps add drop e' RY):e=e'/\fw.Perm RY:=by
 have hd:=Ie hp (d:=drop)
 have ha:=Lk hp (a:=add) (d:=drop)
 have hn:∀{l l':List af},oC es add drop l->oC fs add drop l'->l=l':=λh k=>h.uniq ((Ry hp).2 k)
 cases h with
 |form h=>cases k with
  |form=>exact⟨rfl,hp⟩
  |none k=>exact absurd k h
  |there k=>exact absurd k h
  |dH k=>exact absurd k h
  |eK k=>exact absurd k h
  |ok k=>exact absurd k h
 |none h h2=>cases k with
  |form k=>exact absurd h k
  |none=>exact⟨rfl,hp⟩
  |there _ k=>exact absurd (hd.2 k) h2
  |dH _ k=>exact absurd (hd.2 k) h2
  |eK _ k=>exact absurd (hd.2 k) h2
  |ok _ k=>exact absurd (hd.2 k) h2
 |there h h2 h3=>cases k with
  |form k=>exact absurd h k
  |none _ k=>exact absurd (hd.1 h2) k
  |there=>exact⟨rfl,hp⟩
  |dH _ _ k=>exact absurd (ha.2 k) h3
  |eK _ _ k=>exact absurd (ha.2 k) h3
  |ok _ _ k=>exact absurd (ha.2 k) h3
 |dH h h2 h3 l h4 h5=>cases k with
  |form k=>exact absurd h k
  |none _ k=>exact absurd (hd.1 h2) k
  |there _ _ k=>exact absurd (ha.1 h3) k
  |dH=>exact⟨rfl,hp⟩
  |eK _ _ _ l' k4 k5=>rw[hn h4 k4]at h5;exact absurd h5 k5
  |ok _ _ _ l' k4 k5=>rw[hn h4 k4]at h5;exact absurd h5 k5
 |eK h h2 h3 l h4 h5 h6=>cases k with
  |form k=>exact absurd h k
  |none _ k=>exact absurd (hd.1 h2) k
  |there _ _ k=>exact absurd (ha.1 h3) k
  |dH _ _ _ l' k4 k5=>rw[<- hn h4 k4]at k5;exact absurd k5 h5
  |eK=>exact⟨rfl,hp⟩
  |ok _ _ _ l' k4 k5 k6=>rw[hn h4 k4]at h6;omega
 |ok h h2 h3 l h4 h5 h6=>cases k with
  |form k=>exact absurd h k
  |none _ k=>exact absurd (hd.1 h2) k
  |there _ _ k=>exact absurd (ha.1 h3) k
  |dH _ _ _ l' k4 k5=>rw[<- hn h4 k4]at k5;exact absurd k5 h5
  |eK _ _ _ l' k4 k5 k6=>rw[<- hn h4 k4]at k6;omega
  |ok _ _ _ l' k4=>rw[hn h4 k4];exact⟨rfl,List.Perm.refl _⟩
theorem iA.up(hu:ca aA aH es){e:Int}{fw:List af}(h:iA B M es ps add drop e fw):ca aA aH fw:=by
 cases h with
 |ok _ _ _ _ h4=>exact h4.1
 |_=>exact hu
end
structure yZ(x:NC)(es:List af)(ps:List Prod)(y:tq):Prop where
 ok:jf y
 B:y.B=x.T
 M:y.M=x.M
 ps:y.ps=ps
 up:ca aA aH es
 es:es.Perm y.es
theorem Ck{l:List af}(h:(l.map aH).Nodup):l.Nodup:=List.Pairwise.of_map aH (λa b h e=>h (congrArg aH e)) h
theorem Ce{l:List af}(h:ca aA aH l):l.Nodup:=Ck (iO h)
theorem Qh{l:List af}(h:xu l):(l.map aH).Nodup:=by rw[List.nodup_iff_pairwise_ne,List.pairwise_map];exact h
theorem Qf{l:List af}(h:(l.map aH).Nodup):xu l:=by rw[List.nodup_iff_pairwise_ne,List.pairwise_map]at h;exact h
theorem ad2{l:List af}(h:xu l):∃l',ca aA aH l'/\l'.Perm l:=by
 have hn:=Qh h
 have hu:ca aA aH (cY l []):=nm l List.Pairwise.nil
 refine⟨cY l [],hu,(List.perm_ext_iff_of_nodup (Ce hu) (Ck hn)).2 λe=>?_⟩
 rw[gF hn (by simp)];simp
def eg(es:List af)(d:List Int):List af:=es.filter λe=>decide (e.tag∉d)
theorem fx{α:Type}{l:List α}{i:Nat}(h:i<l.length):l.take (i+1)=l.take i++[l[i]]:=by rw[List.take_add_one,List.getElem?_eq_getElem h];rfl
theorem wh{es:List af}{d:List Int}{i:Nat}(h:i<d.length):(eg es (d.take i)).filter (λe=> !(e.tag == d[i]))=eg es (d.take (i+1)):=by
 unfold eg
 rw[List.filter_filter,fx h]
 refine List.filter_congr λe _=>?_
 simp only[List.mem_append,List.mem_singleton,not_or]
 by_cases h1:e.tag=d[i]<;>by_cases h2:e.tag∈d.take i<;>simp[h1,h2]<;>simp_all
theorem yv{α:Type}{p:α->Bool}:∀{l:List α},(l.filter p).length=l.length->∀x∈l,p x=true
 |[],_,_,h=>by simp at h
 |y::l,h,x,hx=>by
  have h1:=List.length_filter_le p l
  rw[List.filter_cons]at h
  cases hp:p y with
  |false=>
   rw[hp]at h
   simp only[Bool.false_eq_true,if_false,List.length_cons]at h;omega
  |true=>
   rw[hp]at h
   simp only[if_true,List.length_cons]at h
   rcases List.mem_cons.1 hx with rfl|hx
   ·exact hp
   ·exact yv (by omega) x hx
theorem Ng{es:List af}{d:List Int}{i:Nat}(h:i<d.length)(hl:(eg es (d.take (i+1))).length=(eg es (d.take i)).length):¬eN es d:=by
 rintro⟨hn,hd⟩
 rw[<- wh h]at hl
 obtain⟨e,he,ht⟩:=hd _ (List.getElem_mem h)
 have Kj:d[i]∉d.take i:=λhm=>by
  obtain⟨j,hj,e⟩:=List.mem_iff_getElem.1 hm
  rw[List.getElem_take]at e
  rw[List.length_take]at hj
  have:=(List.getElem_inj hn).1 e
  omega
 have:=yv hl e (List.mem_filter.2 ⟨he,by rw[ht];simpa using Kj⟩)
 simp[ht]at this
theorem Ic{es:List af}{d:List Int}{i:Nat}(h:i<d.length)(ho:eN es (d.take i))(hl:(eg es (d.take (i+1))).length≠(eg es (d.take i)).length):eN es (d.take (i+1)):=by
 obtain⟨hn,hd⟩:=ho
 have:∃e∈eg es (d.take i),e.tag=d[i]:=by
  refine Classical.byContradiction λhc=>hl ?_
  rw[<- wh h]
  congr 1
  refine List.filter_eq_self.2 λe he=>?_
  have:e.tag≠d[i]:=λe'=>hc ⟨e,he,e'⟩
  simpa using this
 obtain⟨e,he,ht⟩:=this
 obtain⟨h1,h2⟩:=List.mem_filter.1 he
 rw[fx h]
 refine⟨?_,λt hm=>?_⟩
 ·rw[List.nodup_append]
  refine⟨hn,by simp,λa ha b hb=>?_⟩
  simp only[List.mem_singleton]at hb
  subst hb
  rintro rfl
  rw[ht]at h2
  simp[ha]at h2
 ·rcases List.mem_append.1 hm with hm|hm
  ·exact hd t hm
  ·simp only[List.mem_singleton]at hm
   exact⟨e,h1,by rw[hm,ht]⟩
theorem Rr{es add:List af}{d:List Int}{k:Nat}(h:k<add.length)(hh:∃e∈eg es d++add.take k,e.tag=add[k].tag):¬fi es add d:=by
 rintro⟨hn,ha⟩
 obtain⟨e,he,ht⟩:=hh
 rcases List.mem_append.1 he with he|he
 ·obtain⟨h1,h2⟩:=List.mem_filter.1 he
  have:=ha _ (List.getElem_mem h) ⟨e,h1,ht⟩
  rw[<- ht]at this
  simp[this]at h2
 ·obtain⟨j,hj,rfl⟩:=List.mem_iff_getElem.1 he
  rw[List.getElem_take]at ht
  rw[List.length_take]at hj
  have Kl:j<(add.map aH).length:=by rw[List.length_map];omega
  have bW:k<(add.map aH).length:=by rw[List.length_map];omega
  have:(add.map aH)[j]=(add.map aH)[k]:=by rw[List.getElem_map,List.getElem_map];exact ht
  have:=(List.getElem_inj hn).1 this
  omega
theorem Lj{es add:List af}{d:List Int}{k:Nat}(h:k<add.length)(ho:fi es (add.take k) d)(cm:∀e∈eg es d++add.take k,e.tag≠add[k].tag):fi es (add.take (k+1)) d:=by
 obtain⟨hn,ha⟩:=ho
 rw[fx h]
 refine⟨?_,λa hm=>?_⟩
 ·rw[List.map_append,List.nodup_append]
  refine⟨hn,by simp,λa ha b hb=>?_⟩
  simp only[List.map_cons,List.map_nil,List.mem_singleton]at hb
  subst hb
  rintro rfl
  obtain⟨x,hx,e⟩:=List.mem_map.1 ha
  exact cm x (List.mem_append.2 (.inr hx)) e
 ·rcases List.mem_append.1 hm with hm|hm
  ·exact ha a hm
  ·simp only[List.mem_singleton]at hm
   subst hm
   rintro⟨e,he,ht⟩
   refine Classical.byContradiction λhc=>cm e (List.mem_append.2 (.inl (List.mem_filter.2 ⟨he,?_⟩))) ht
   rw[ht];simpa using hc
theorem ab_{es add:List af}{d:List Int}(hn:xu es)(ha:fi es add d):xu (eg es d++add):=by
 refine List.pairwise_append.2 ⟨hn.filter _,Qf ha.1,λa h1 b h2 e=>?_⟩
 obtain⟨h3,h4⟩:=List.mem_filter.1 h1
 have:=ha.2 b h2 ⟨a,h3,e⟩
 rw[<- e]at this
 simp[this]at h4
theorem Yq{es add:List af}{d:List Int}{l':List af}(hu:ca aA aH l')(hp:l'.Perm (eg es d++add)):oC es add d l':=by
 refine⟨hu,λe=>?_⟩
 rw[hp.mem_iff,List.mem_append,eg,List.mem_filter]
 simp only[decide_eq_true_eq]
 exact or_comm
def kO(p:Prod):Prop:=bD p.conds/\aj p.conds<=50/\p.bp.length<=50
theorem wB(f:Fl)(l:List dh)(hl:l.length<=1000000):Pure prog 72 [.list 19 f (l.map dh.pv)] (.list 19 .sh (l.map dh.pv)):=by
 refine ao.of (oE.c ?_)
 exact aV.RW (by trivial) (by simp;omega) (by simp;omega) λf1 μ1 t1=>rfl
theorem wz(f1 f2:Fl)(p:Prod)(h:kO p):Pure prog 20 [.agg [pS p.name,.list 7 f1 (p.conds.map ae.pv),.list 19 f2 (p.bp.map dh.pv)]] (.agg [pS p.name,.list 7 .sh (p.conds.map ae.pv),.list 19 .sh (p.bp.map dh.pv)]):=by
 obtain⟨h1,h2,h3⟩:=h
 refine ao.of (gX.c ?_)
 refine(wA _ f1 p.conds (Nat.le_refl _) (by omega) h1).q ⟨_,_,rfl,?_⟩
 refine(wB f2 p.bp (by omega)).q ⟨_,_,rfl,?_⟩
 rfl
theorem zW{fn:Fn}{a b:List PV}{A:aY}{l:List Mt}(hs:Ag prog (.fn fn a b) (l.map λm=>[.agg m.pv]) A)(hl:l.length<=1000000){L:List aY}{μ:Mem}(hO:Ow (A::L) μ){K:Kq}(hk:∀f μ',Ow (A::L) μ'->K (.list 2 f (l.map Mt.pv)) μ'):
  aa prog 23 [.fn fn a b] μ K:=by
 refine mV.c λb3 DB=>?_
 have O1:=lU.new (hO.new 48 [.list 2 .nil []] DB)
 refine bk.aen hs (Ow.swap O1) (λk u=>Ow (lU b3 48 2 ((l.take k).map Mt.pv)::L) u) (λ_ _=>False) (λk=>fJ.own _) (λ_ _ _ _ h=>h.elim) (λμ' h'=>h') ?_ ?_ (λc u h=>?_)
 ·rintro k fH u R h2 bU _
  have bW:k<l.length:=by simpa using fH
  rw[List.getElem_map]
  refine⟨_,_,_,rfl,?_⟩
  refine lU.go 0 h2 rfl (by simp;omega) (by simp;omega) λu4 h4=>bU _ ?_
  rw[dT bW];exact h4
 ·intro u h
  rw[List.length_map]at h
  have h2:Ow (A::lU b3 48 2 ((l.take l.length).map Mt.pv)::L) u:=h.tail λ_ h=>h.Xj
  rw[List.take_length]at h2
  obtain⟨f,hf⟩:=lU.rd 1 h2 rfl
  dsimp only[PK]
  exact⟨_,_,hf,hk f u (h2.tail λ_ h=>h.drop)⟩
 ·obtain⟨_,_,_,_,_,_,_,_,_,h,_⟩:=h
  exact h.elim
def On(B:Int)(es:List af)(l:List ae):Bool:=(List.range l.length).any λi=>(List.range (aR (l[i]?.getD Ja))).any λj=>decide (B<((dZ es (l[i]?.getD Ja) (au es (l.take i)) j:Nat):Int))
theorem Ga{B:Int}(hB:0<=B){es:List af}{l:List ae}:On B es l=true↔du B es l:=by
 unfold On du
 rw[List.any_eq_true]
 constructor
 ·rintro⟨i,hi,h⟩
  have vX:=List.mem_range.1 hi
  obtain⟨j,hj,h2⟩:=List.any_eq_true.1 h
  rw[List.getElem?_eq_getElem vX]at h2
  exact⟨i,vX,j,by simpa using h2⟩
 ·rintro⟨i,hi,j,h⟩
  refine⟨i,List.mem_range.2 hi,List.any_eq_true.2 ⟨j,?_,?_⟩⟩
  ·rw[List.getElem?_eq_getElem hi]
   refine List.mem_range.2 ?_
   by_cases hj:j<aR l[i]
   ·exact hj
   ·rw[KQ es l[i] _ (by omega)]at h;omega
  ·rw[List.getElem?_eq_getElem hi];simpa using h
theorem Ii(t:ByteArray):Pure prog 53 [pS t] (.agg [pI 3,pS t,pI 0]):=ao.of (BH.c rfl)
theorem Yx(k:Int):Pure prog 56 [pI k] (.agg [pI 2,pS ⟨#[]⟩,pI k]):=ao.of (BI.c rfl)
theorem af5(t:ByteArray)(k:Int):Pure prog 55 [pS t,pI k] (.agg [pI 1,pS t,pI k]):=ao.of (BJ.c rfl)
def wS(t:ByteArray):Sym:=⟨3,t,0⟩
def nS(k:Int):Sym:=⟨2,⟨#[]⟩,k⟩
def iS(t:ByteArray)(k:Int):Sym:=⟨1,t,k⟩
def DP(v:ByteArray)(s:Sym):List Test:=[⟨1,v,s,[]⟩]
theorem La(v:ByteArray)(s:Sym):Pure prog 54 [pS v,.agg s.pv] (.list 6 .sh ((DP v s).map Test.pv)):=ao.of (Au.c rfl)
def RB:Prod:=⟨⟨#[97]⟩,[.mk 1 true ⟨#[115]⟩ (DP ⟨#[]⟩ (wS ⟨#[120]⟩)) (DP ⟨#[118]⟩ ⟨0,⟨#[]⟩,0⟩) false [],.mk 2 false ⟨#[115]⟩ (DP ⟨#[]⟩ (wS ⟨#[121]⟩)) (DP ⟨#[118]⟩ ⟨0,⟨#[]⟩,0⟩) false []],[⟨⟨#[115]⟩,⟨⟨#[]⟩,wS ⟨#[122]⟩⟩,⟨0,⟨⟨#[118]⟩,⟨0,⟨#[]⟩,0⟩⟩,⟨⟨#[]⟩,⟨0,⟨#[]⟩,0⟩⟩⟩,1,⟨⟨#[]⟩,⟨0,⟨#[]⟩,0⟩⟩⟩]⟩
def LN:List af:=[⟨iS ⟨#[83]⟩ 1,wS ⟨#[120]⟩,nS 1,false,true,1⟩,⟨iS ⟨#[83]⟩ 1,wS ⟨#[120]⟩,nS 2,false,true,2⟩,⟨iS ⟨#[83]⟩ 1,wS ⟨#[121]⟩,nS 2,false,true,3⟩]
theorem cH:(cg RB).2.1=0:=by kernel_rfl
theorem Bp:On 10 [] RB.conds=false:=by kernel_rfl
theorem wk3:On 10 LN RB.conds=false:=by kernel_rfl
theorem wk4:bK [] []+(au [] RB.conds).length=0:=by kernel_rfl
theorem wk5:bK LN [RB]=1:=by kernel_rfl
theorem wk6:allM LN [RB]=[⟨⟨#[97]⟩,[1]⟩]:=by kernel_rfl
theorem wkL:bD RB.conds:=by
 refine⟨⟨by decide,by decide,by decide,?_,?_,trivial⟩,⟨by decide,by decide,by decide,?_,?_,trivial⟩,trivial⟩<;>intro t ht<;>simp[DP]at ht<;>subst ht<;>exact⟨by decide,by decide,by decide⟩
theorem wk7:nU LN:=by
 intro e he
 simp only[LN,List.mem_cons,List.not_mem_nil,or_false]at he
 rcases he with rfl|rfl|rfl<;>exact⟨by kernel_rfl,by decide⟩
theorem wk8:ca aA aH LN:=by
 refine List.Pairwise.cons ?_ (List.Pairwise.cons ?_ (List.Pairwise.cons ?_ List.Pairwise.nil))<;>intro e he<;>simp only[List.mem_cons,List.not_mem_nil,or_false]at he
 ·rcases he with rfl|rfl<;>decide
 ·subst he;decide
theorem wk9:(LN.map aH).Nodup:=iO wk8
theorem adS{B M:Int}(hB:B=10)(hM:M=10){e:Int}{qJ:List Prod}(h:mj B M [] [] RB e qJ):e=0/\qJ=[RB]:=by
 subst hB hM
 cases h with
 |form h=>exact absurd cH h
 |there _ h2=>cases h2
 |dH _ _ h3=>
  have:=(Ga (by omega)).2 h3
  rw[Bp]at this;cases this
 |eK _ _ _ h4=>rw[wk4]at h4;simp at h4
 |ok=>exact⟨rfl,rfl⟩
theorem adR{B M:Int}(hB:B=10)(hM:M=10){e:Int}{kA:List af}(h:iA B M [] [RB] LN [] e kA):e=0/\kA=LN:=by
 subst hB hM
 have hd:eN [] []:=⟨List.nodup_nil,by simp⟩
 have ha:fi [] LN []:=⟨wk9,by simp⟩
 have hn:oC [] LN [] LN:=⟨wk8,by simp⟩
 cases h with
 |form h=>exact absurd wk7 h
 |none _ h=>exact absurd hd h
 |there _ _ h=>exact absurd ha h
 |dH _ _ _ kA h4 h5=>
  have:=h4.uniq hn
  subst this
  obtain⟨q,hq,ho⟩:=h5
  simp only[List.mem_singleton]at hq
  subst hq
  have:=(Ga (by omega)).2 ho
  rw[wk3]at this;cases this
 |eK _ _ _ kA h4 _ h6=>
  have:=h4.uniq hn
  subst this
  rw[wk5]at h6;simp at h6
 |ok _ _ _ kA h4=>exact⟨rfl,h4.uniq hn⟩
theorem UX:Pure prog 19 [] (pB true):=by
 refine ao.of (uI.c ?_)
 refine KZ 10 10 (L:=[]) trivial (λh=>absurd (by omega) h) λ_ n x u hT hM h1=>⟨_,_,rfl,ab.f rfl (ab.f rfl ?_)⟩
 refine(Ii _).call ⟨_,_,_,rfl,(La _ (wS _)).call ⟨_,_,rfl,(La _ ⟨0,⟨#[]⟩,0⟩).call ⟨_,_,rfl,(Ii _).call ⟨_,_,_,rfl,(La _ (wS _)).call ⟨_,_,rfl,(La _ ⟨0,⟨#[]⟩,0⟩).call ⟨_,_,rfl,(Ii _).call ⟨_,_,_,rfl,(af5 _ _).call ⟨_,_,_,rfl,?_⟩⟩⟩⟩⟩⟩⟩⟩
 refine(Ii _).q ⟨_,_,_,rfl,?_⟩
 refine(Yx _).q ⟨_,_,_,rfl,?_⟩
 refine(Ii _).q ⟨_,_,_,rfl,?_⟩
 refine(Yx _).q ⟨_,_,_,rfl,?_⟩
 refine(Ii _).q ⟨_,_,_,rfl,?_⟩
 refine(Yx _).q ⟨_,_,_,rfl,?_⟩
 simp only[Mem.oM]
 refine GM (by omega) .sh .sh RB wkL (by decide) (by decide) h1 λe qJ u2 zH h2=>⟨_,rfl,?_⟩
 obtain⟨rfl,rfl⟩:=adS hT hM zH
 refine kj (by omega) .nr .nil LN [] (by decide) (by decide) (by decide) (λe he=>?_) h2 λe kA u3 ajf h3=>⟨_,rfl,?_⟩
 ·simp only[LN,List.mem_cons,List.not_mem_nil,or_false]at he
  rcases he with rfl|rfl|rfl<;>decide
 obtain⟨rfl,rfl⟩:=adR hT hM ajf
 refine(DW n).call ⟨_,_,_,rfl,zW (l:=allM LN [RB]) (BP (by omega)) (by rw[wk6];decide) h3 λf u4 h4=>⟨_,_,rfl,ab.t rfl (ab.t rfl ?_)⟩⟩
 rw[wk6]
 exact ab.t rfl ⟨by omega,_,rfl,_,_,rfl,ab.t rfl ⟨by omega,_,rfl,_,_,rfl,by omega,_,rfl,_,rfl,rfl⟩⟩
section
variable {r:Nat} {y:tq}
theorem jf.chg(h:jf y){l:List af}(hl:l.length<=100000)(hn:xu l)(h1:¬ ∃p∈y.ps,du y.B l p.conds)(h2:((bK l y.ps:Nat):Int)<=y.M):jf ⟨y.B,y.M,y.ps,l,y.ps.map (qA l),y.ps.map (oP l)⟩:=
 ⟨h.b,h.m,h.si,h.rE,h.Bg,hl,hn,rfl,rfl,λp hp ho=>h1 ⟨p,hp,ho⟩,h2⟩
theorem GC(es:List af)(d:List Int):(eg es d).length<=es.length:=List.length_filter_le _ _
theorem Rm(h:jf y)(f1 f2:Fl)(add:List af)(drop:List Int)(hal:add.length<=1000)(hdl:drop.length<=1000)(IY:y.es.length+add.length<=100000){L:List aY}{μ:Mem}(hO:Ow (aW r y::L) μ){K:Kq}
  (hk:∀e l y' μ',iA y.B y.M y.es y.ps add drop e l->jf y'->y'.B=y.B->y'.M=y.M->y'.ps=y.ps->l.Perm y'.es->Ow (aW r y'::L) μ'->K (pI e) μ'):
  aa prog 40 [pP r 0,.list 12 f1 (add.map af.pv),.list 1 f2 (drop.map gz)] μ K:=by
 have same:∀{e:Int} {u:Mem},iA y.B y.M y.es y.ps add drop e y.es->Ow (aW r y::L) u->K (pI e) u:=λhc hu=>hk _ _ y _ hc h rfl rfl rfl (List.Perm.refl _) hu
 refine tx.c ?_
 refine ak.each (n:=add.length) (by omega) (λk u=>(∀e∈add.take k,jR e=true/\1<=e.tag)/\u=μ) ⟨by simp,rfl⟩ ?_ ?_
 ·rintro k u next bW ⟨hg,rfl⟩ ar
  refine ab.t (by simpa using bW) ⟨by omega,_,aw bW,_,_,_,_,_,_,_,_,_,_,_,_,rfl,(Nk add[k]).call ⟨_,rfl,ab.mk (λhv=>?_) (λhv=>⟨by omega,_,aw bW,_,rfl,ab.mk (λht=>?_) (λht=>ar _ ⟨λe he=>?_,rfl⟩)⟩)⟩⟩
  ·refine same (.form λiv=>?_) hO
   rw[(iv _ (List.getElem_mem bW)).1]at hv;cases hv
  ·refine same (.form λiv=>?_) hO
   have h1:=(iv _ (List.getElem_mem bW)).2
   have:add[k].tag<1:=by simpa using ht
   omega
  ·rcases(dg bW).1 he with he|rfl
   ·exact hg e he
   ·exact⟨nt hv,by have:¬add[k].tag<1:=by simpa using ht
                   omega⟩
 rintro u next ⟨iv,rfl⟩
 rw[List.take_length]at iv
 have iv:nU add:=iv
 obtain⟨f,sd⟩:=aW.open_ hO
 refine ab.f (by simp) ⟨_,_,sd.rd 0 rfl (by simp),?_⟩
 refine ak.dm (n:=drop.length) (by omega) (λi s u=>s.2=(eg y.es (drop.take i)).map af.pv/\eN y.es (drop.take i)/\Ow (Pt r 47 (y.pv f)::L) u) ⟨?_,⟨by simp,by simp⟩,sd⟩ ?_ ?_
 ·have:eg y.es (drop.take 0)=y.es:=List.filter_eq_self.2 λe _=>by simp
  rw[this]
 ·rintro i ⟨g,_⟩ u1 iJ hi ⟨rfl,hd,h1⟩ gu
  dsimp only at h1 |-
  have hlen:=GC y.es (drop.take i)
  refine ab.t (by simpa using hi) ?_
  refine ak.dm (n:=(eg y.es (drop.take i)).length) (by omega) (λk s u=>∃q:List af,s.2=q.map af.pv/\q=((eg y.es (drop.take i)).take k).filter (λe=> !(e.tag == drop[i]))/\Ow (eH s.1 q.length 12::Pt r 47 (y.pv f)::L) u) ⟨[],rfl,by simp,h1.nil (.inl rfl)⟩ ?_ ?_
  ·rintro k ⟨g2,_⟩ u2 qc fH ⟨q,rfl,hq,h2⟩ gq
   have hql:q.length<=k:=by rw[hq];exact Nat.le_trans (List.length_filter_le _ _) (by rw[List.length_take];omega)
   refine ab.t (by simpa using fH) ⟨by omega,_,aw fH,_,rfl,by omega,_,aw hi,_,rfl,ab.mk (λaT=>?_) (λhe=>?_)⟩
   ·have aT:((eg y.es (drop.take i))[k].tag == drop[i])=false:=by simpa using aT
    refine⟨by omega,_,aw fH,_,_,_,_,_,_,_,_,_,_,_,_,rfl,?_⟩
    refine h2.app (by simp) (by simp;omega) (by simp;omega) λg3 u3 h3=>gq _ _ ⟨q++[(eg y.es (drop.take i))[k]],by rw[List.map_append];rfl,?_,by rw[List.length_append];exact h3⟩
    rw[fx fH,List.filter_append,<- hq]
    simp[aT]
   ·have he:((eg y.es (drop.take i))[k].tag == drop[i])=true:=by simpa using he
    refine gq _ _ ⟨q,rfl,?_,h2⟩
    rw[fx fH,List.filter_append,<- hq]
    simp[he]
  ·rintro⟨g2,_⟩ u2 qc ⟨q,rfl,hq,h2⟩
   rw[List.take_length,wh hi]at hq
   subst hq
   refine ab.f (by simp) (ab.mk (λhe=>?_) (λaT=>?_))
   ·have he:(eg y.es (drop.take (i+1))).length=(eg y.es (drop.take i)).length:=by simp only[List.length_map,beq_iff_eq]at he;omega
    exact same (.none iv (Ng hi he)) (aW.shut (f:=f) h2.drop)
   ·have aT:(eg y.es (drop.take (i+1))).length≠(eg y.es (drop.take i)).length:=by simp only[List.length_map,beq_eq_false_iff_ne,ne_eq]at aT;omega
    exact gu _ _ ⟨rfl,Ic hi hd aT,h2.drop⟩
 rintro⟨g,_⟩ u1 iJ ⟨rfl,hd,h1⟩
 rw[List.take_length]at hd
 dsimp only at h1 |-
 rw[List.take_length]
 have hlen:=GC y.es drop
 refine ab.f (by simp) (oh.c ?_)
 refine Ow.Nz h1 (by simp;omega) (by simp;omega) λg1 u2 h2=>⟨_,_,rfl,?_⟩
 rw[List.length_map]at h2
 rw[List.nil_append]
 refine ak.dm (n:=add.length) (by omega) (λi s u=>s.2=(eg y.es drop++add.take i).map af.pv/\fi y.es (add.take i) drop/\Ow (eH s.1 ((eg y.es drop).length+i) 12::Pt r 47 (y.pv f)::L) u) ⟨by simp,⟨by simp,by simp⟩,h2⟩ ?_ ?_
 ·rintro i ⟨g2,_⟩ u3 uU hi ⟨rfl,ha,h3⟩ lW
  dsimp only at h3 |-
  refine ab.t (by simpa using hi) ?_
  refine ak.each (n:=(eg y.es drop++add.take i).length) (by simp;omega) (λk u=>(∀e∈(eg y.es drop++add.take i).take k,e.tag≠add[i].tag)/\u=u3) ⟨by simp,rfl⟩ ?_ ?_
  ·rintro k u4 Te hk4 ⟨cm,rfl⟩ MS
   refine ab.t (decide_eq_true (by rw[List.length_map];exact Int.ofNat_lt.2 hk4)) ⟨by omega,_,aw hk4,_,rfl,by omega,_,aw hi,_,rfl,ab.mk (λhe=>?_) (λaT=>MS _ ⟨λe he=>?_,rfl⟩)⟩
   ·have he:(eg y.es drop++add.take i)[k].tag=add[i].tag:=by simpa using he
    exact same (.there iv hd (Rr hi ⟨_,List.getElem_mem hk4,he⟩)) (aW.shut (f:=f) h3.drop)
   ·rcases(dg hk4).1 he with he|rfl
    ·exact cm e he
    ·simpa using aT
  ·rintro u4 Te ⟨cm,rfl⟩
   rw[List.take_length]at cm
   refine ab.f (by simp) ⟨by omega,_,aw hi,_,_,_,_,_,_,_,_,_,_,_,_,rfl,?_⟩
   refine h3.app (by simp;omega) (by simp;omega) (by simp;omega) λg3 u5 h5=>lW _ _ ⟨?_,Lj hi ha cm,h5⟩
   rw[fx hi,<- List.append_assoc,List.map_append (l₂:=[add[i]])];rfl
 rintro⟨g2,_⟩ u3 uU ⟨rfl,ha,h3⟩
 rw[List.take_length]at ha
 dsimp only at h3 |-
 rw[List.take_length]
 have ll:=ab_ h.ne ha
 obtain⟨l',zE,rS⟩:=ad2 ll
 have hNE:=Yq zE rS
 have Wj:(eg y.es drop++add).length<=100000:=by rw[List.length_append];omega
 refine ab.f (by simp) ?_
 dsimp only[nP,nn,aF]
 refine h3.drop.st 0 rfl (by simp) λu4 h4=>?_
 have h5:Ow (aW r ⟨y.B,y.M,y.ps,eg y.es drop++add,y.tk,y.mo⟩::L) u4:=aW.shut (x:=⟨y.B,y.M,y.ps,eg y.es drop++add,y.tk,y.mo⟩) (f:=(f.1,g2,f.2.2.1,f.2.2.2)) h4
 have AR:(∃p∈y.ps,du y.B (eg y.es drop++add) p.conds)↔∃p∈y.ps,du y.B l' p.conds:=by
  constructor
  ·rintro⟨p,hp,ho⟩;exact⟨p,hp,(qM rS).2 ho⟩
  ·rintro⟨p,hp,ho⟩;exact⟨p,hp,(qM rS).1 ho⟩
 have lM:=Jm rS y.ps
 have back:∀{u:Mem} {e:Int},Ow (aW r ⟨y.B,y.M,y.ps,eg y.es drop++add,y.tk,y.mo⟩::L) u->e≠0->iA y.B y.M y.es y.ps add drop e y.es->ab ((e:Int) != 0) (nP (some ⟨r,0,none⟩) λYI Xo=>stM YI (Xo+3) [.list 12 f.2.1 (y.es.map af.pv)] u λPy=>K (pI e) Py) (K (pI e) u):=λhu he hc=>by
  obtain⟨f',h6⟩:=aW.open_ hu
  refine ab.t (by simpa using he) ?_
  dsimp only[nP,nn,aF]
  refine h6.st 0 rfl (by simp) λu5 h7=>same hc (aW.shut (f:=(f'.1,f.2.1,f'.2.2.1,f'.2.2.2)) h7)
 refine Vw (x:=⟨y.B,y.M,y.ps,eg y.es drop++add,y.tk,y.mo⟩) h.b h.rE h.Bg Wj ll h5 (λho u5 h6=>⟨_,rfl,back h6 (by omega) (.dH iv hd ha l' hNE (AR.1 ho))⟩) (λho hs u5 h6=>⟨_,rfl,back h6 (by omega) (.eK iv hd ha l' hNE (λhc=>ho (AR.2 hc)) (by rw[lM];exact hs))⟩) (λho hs u5 h6=>⟨_,rfl,ab.f rfl (hk 0 l' _ _ (.ok iv hd ha l' hNE (λhc=>ho (AR.2 hc)) (by rw[lM];exact hs)) (h.chg Wj ll ho hs) rfl rfl rfl rS h6)⟩)
end
def oR(ps:List Prod)(n:Nat):Prop:=ps.length<=n/\∀p∈ps,kO p
theorem iA.UE{B M:Int}{es:List af}{ps:List Prod}{add:List af}{drop:List Int}{e:Int}{kA:List af}(h:iA B M es ps add drop e kA):∀x∈kA,x∈add\/x∈es:=by
 intro x hx
 cases h with
 |ok _ _ _ _ h4=>rcases(h4.2 x).1 hx with h|⟨h,_⟩
                 ·exact .inl h
                 ·exact .inr h
 |_=>exact .inr hx
theorem iA.ajU{B M:Int}{es:List af}{ps:List Prod}{add:List af}{drop:List Int}{e:Int}{kA:List af}(h:iA B M es ps add drop e kA)(hv:∀x∈es,jR x=true):∀x∈kA,jR x=true:=by
 intro x hx
 cases h with
 |ok hg _ _ _ h4=>rcases(h4.2 x).1 hx with h|⟨h,_⟩
                  ·exact(hg x h).1
                  ·exact hv x h
 |_=>exact hv x hx
theorem sE{α:Type}[DecidableEq α]:∀{l m:List α},l.Nodup->(∀x∈l,x∈m)->l.length<=m.length
 |[],_,_,_=>Nat.zero_le _
 |a::l,m,h,hs=>by
  obtain⟨h1,h2⟩:=List.nodup_cons.1 h
  have ha:=hs a (by simp)
  have h3:=sE (m:=m.erase a) h2 λx hx=>(List.mem_erase_of_ne (λe:x=a=>h1 (by rw[<- e];exact hx))).2 (hs x (by simp[hx]))
  rw[List.length_erase_of_mem ha]at h3
  have:=List.length_pos_of_mem ha
  simp only[List.length_cons];omega
theorem iA.len{B M:Int}{es:List af}{ps:List Prod}{add:List af}{drop:List Int}{e:Int}{kA:List af}(hu:ca aA aH es)(h:iA B M es ps add drop e kA):kA.length<=es.length+add.length:=by
 have h1:=Ce (h.up hu)
 have h2:kA.length<=(es++add).length:=by
  classical
  refine sE h1 λx hx=>?_
  rcases h.UE x hx with h|h
  ·simp[h]
  ·simp[h]
 rwa [List.length_append]at h2
theorem mj.mem{B M:Int}{es:List af}{ps:List Prod}{p:Prod}{e:Int}{qJ:List Prod}(h:mj B M es ps p e qJ):∀q∈qJ,q=p\/q∈ps:=by
 intro q hq
 cases h with
 |ok=>rcases(bj aP).1 hq with h|⟨h,_⟩
      ·exact .inl h
      ·exact .inr h
 |_=>exact .inr hq
theorem tU(f1 f2:Fl){ps:List Prod}{m:Nat}(hm:m<=20)(hp:oR ps m)(es:List af)(he:es.length<=40){L:List aY}{μ:Mem}(hO:Ow L μ){K:Kq}
  (hk:∀n r x fw fW y μ',x.T=200->x.M=400->(∀e∈fw,(1<=e.tag/\e.tag<=40)/\jR e=true)->fw.length<=40->(∀p∈fW,p∈ps)->yZ x fw fW y->Ow (bR n x fw fW 20::aW r y::L) μ'->K (.aD [pP n 0,pP r 0]) μ'):
  aa prog 22 [.list 3 f1 (ps.map Prod.pv),.list 12 f2 (es.map af.pv)] μ K:=by
 obtain⟨ow,OI⟩:=hp
 refine tw.c ?_
 refine KZ 200 400 hO (λh=>absurd (by omega) h) λ_ n x u hT hM h1=>⟨_,_,rfl,ab.f rfl (ab.f rfl ?_)⟩
 intro r hr
 have h2:=h1.new 47 (tq.pv ⟨200,400,[],[],[],[]⟩ (.nil,.nil,.nil,.nil)) hr
 have hy:jf ⟨200,400,[],[],[],[]⟩:=⟨show(1:Int)<=200/\(200:Int)<=1024 by omega,show(400:Int)<=1024 by omega,List.Pairwise.nil,by simp,by simp,by simp,List.Pairwise.nil,rfl,rfl,by simp,by simp[bK]⟩
 have h3:Ow (bR n x [] [] 0::aW r ⟨200,400,[],[],[],[]⟩::L) _:=Ow.swap (aW.shut (x:=⟨200,400,[],[],[],[]⟩) h2)
 refine ak.each (n:=ps.length) (by omega) (λi u=>∃fW y,yZ x [] fW y/\(∀q∈fW,q∈ps)/\Ow (bR n x [] fW i::aW r y::L) u) ⟨[],_,⟨hy,hT.symm,hM.symm,rfl,List.Pairwise.nil,List.Perm.refl _⟩,by simp,h3⟩ ?_ ?_
 ·rintro i u1 next hi ⟨fW,y,hb,eZ,h4⟩ ar
  have hpi:=OI _ (List.getElem_mem hi)
  obtain⟨q1,q2,q3⟩:=hpi
  have OF:y.ps.length<=i:=by
   rw[hb.ps]
   obtain⟨_,_,_,_,_,_,_,⟨hR,_⟩,_⟩:=bR.open_ h4
   exact hR.xt
  have acG:∀{u:Mem} {F:Kq},Ow (bR n x [] fW i::aW r y::L) u->(∀e u',(∀{F2:Kq},(∀u2,(∃fW y,yZ x [] fW y/\(∀q∈fW,q∈ps)/\Ow (bR n x [] fW (i+1)::aW r y::L) u2)->F2 (pI e) u2)->aa prog 42 [pP r 0,.agg [pS ps[i].name,.list 7 .sh (ps[i].conds.map ae.pv),.list 19 .sh (ps[i].bp.map dh.pv)]] u' F2)->F (pI e) u')->aa prog 41 [pP n 0,.agg [pS ps[i].name,.list 7 .sh (ps[i].conds.map ae.pv),.list 19 .sh (ps[i].bp.map dh.pv)]] u F:=λ{u F} hu hF=>by
   refine GM (by omega) .sh .sh ps[i] q1 (by omega) (by omega) hu λe ps2 u2 zH h5=>hF e u2 λ{F2} DD=>?_
   refine acy hb.ok (by omega) .sh .sh ps[i] q1 (by omega) (by omega) (Ow.swap h5) λe' ps3 y' u3 afz abl hB' hM' ajb abi h6=>?_
   have afy:mj x.T x.M [] fW ps[i] e' ps3:=by
    have:=afz.perm hb.es
    rw[hb.B,hb.M,hb.ps]at this;exact this
   obtain⟨rfl,rfl⟩:=zH.uniq afy
   refine DD u3 ⟨ps2,y',⟨abl,hB'.trans hb.B,hM'.trans hb.M,abi,hb.up,by rw[ajb];exact hb.es⟩,λq hq=>?_,Ow.swap h6⟩
   rcases zH.mem q hq with rfl|hq
   ·exact List.getElem_mem hi
   ·exact eZ q hq
  have cp:=wz .sh .sh ps[i] ⟨q1,q2,q3⟩
  have ne:∀e:Int,((e != e):Bool)=false:=λe=>by simp
  refine ab.t (by simpa using hi) ⟨by omega,_,aw hi,_,_,_,_,_,rfl,by omega,_,aw hi,⟨_,_,_,_,_,rfl,cp.call ⟨_,_,_,_,_,rfl,acG h4 λe u2 zH=>⟨_,rfl,cp.call ⟨_,_,_,_,_,rfl,zH λu3 hI=>⟨_,rfl,ab.f (ne _) (ar _ hI)⟩,trivial⟩,trivial⟩,trivial⟩,trivial⟩,cp.call ⟨_,_,_,_,_,rfl,⟨_,_,_,_,_,rfl,acG h4 λe u2 zH=>⟨_,rfl,cp.call ⟨_,_,_,_,_,rfl,zH λu3 hI=>⟨_,rfl,ab.f (ne _) (ar _ hI)⟩,trivial⟩,trivial⟩,trivial⟩,acG h4 λe u2 zH=>⟨_,rfl,_,_,_,_,_,rfl,cp.call ⟨_,_,_,_,_,rfl,zH λu3 hI=>⟨_,rfl,ab.f (ne _) (ar _ hI)⟩,trivial⟩,trivial⟩,trivial⟩,trivial⟩
 ·rintro u1 next ⟨fW,y,hb,eZ,h4⟩
  have ZZ:Ow (bR n x [] fW 20::aW r y::L) u1:=by
   obtain⟨T,ms,ids,tk,ct,fr,mn,⟨hR,dQ⟩,h5⟩:=bR.open_ h4
   exact bR.shut (hR.mono (by omega) λ_ h=>h) dQ h5
  refine ab.f (by simp) ?_
  refine ak.each (n:=es.length) (by omega) (λi u=>∃fw y,yZ x fw fW y/\(∀e∈fw,(1<=e.tag/\e.tag<=(i:Int))/\jR e=true)/\fw.length<=i/\Ow (bR n x fw fW 20::aW r y::L) u) ⟨[],y,hb,by simp,by simp,ZZ⟩ ?_ ?_
  ·rintro i u2 qc hi ⟨fw,y2,rU,XG,rS,h5⟩ gq
   have ew:IntKind.wrap .i64 (((i:Nat):Int)+1)=((i+1:Nat):Int):=by rw[az (by omega) (by omega)];rfl
   have OF:y2.es.length<=i:=by rw[<- rU.es.length_eq];exact rS
   let e0:af:={es[i]with tag:=((i+1:Nat):Int)}
   have chg:∀{u:Mem} {F:Kq},Ow (bR n x fw fW 20::aW r y2::L) u->(∀e u',(∀{F2:Kq},(∀u2,(∃fw y,yZ x fw fW y/\(∀e∈fw,(1<=e.tag/\e.tag<=((i+1:Nat):Int))/\jR e=true)/\fw.length<=i+1/\Ow (bR n x fw fW 20::aW r y::L) u2)->F2 (pI e) u2)->aa prog 40 [pP r 0,.list 12 .nr ([e0].map af.pv),.list 1 .nil (([]:List Int).map gz)] u' F2)->F (pI e) u')->aa prog 39 [pP n 0,.list 12 .nr ([e0].map af.pv),.list 1 .nil (([]:List Int).map gz)] u F:=λ{u F} hu hF=>by
    refine kj (by omega) .nr .nil [e0] [] (by simp) (by simp) (by simp;omega) (λe he=>by simp only[List.mem_singleton]at he;subst he;show((i+1:Nat):Int)<_;omega) hu λe RY u3 hc h6=>hF e u3 λ{F2} DD=>?_
    refine Rm rU.ok .nr .nil [e0] [] (by simp) (by simp) (by simp;omega) (Ow.swap h6) λe' l y' u4 rI abl hB' hM' abi XQ h7=>?_
    rw[rU.B,rU.M,rU.ps]at rI
    obtain⟨rfl,aiJ⟩:=hc.same rU.es rI
    refine DD u4 ⟨RY,y',⟨abl,hB'.trans rU.B,hM'.trans rU.M,abi.trans rU.ps,hc.up rU.up,aiJ.trans XQ⟩,λe he=>?_,?_,Ow.swap h7⟩
    ·refine⟨?_,hc.ajU (λe he=>(XG e he).2) e he⟩
     rcases hc.UE e he with h|h
     ·simp only[List.mem_singleton]at h;subst h;show 1<=((i+1:Nat):Int)/\_;exact⟨by omega,Int.le_refl _⟩
     ·have:=(XG e h).1;omega
    ·have:=hc.len rU.up;simp at this;omega
   have ne:∀e:Int,((e != e):Bool)=false:=λe=>by simp
   refine ab.t (by simpa using hi) ⟨by omega,_,aw hi,_,_,_,_,_,_,_,_,_,_,_,_,rfl,?_⟩
   rw[ew]at gq |-
   exact⟨⟨chg h5 λe u3 hc=>⟨_,rfl,⟨hc λu4 hI=>⟨_,rfl,ab.f (ne _) (gq _ hI)⟩,trivial⟩,trivial⟩,⟨chg h5 λe u3 hc=>⟨_,rfl,hc λu4 hI=>⟨_,rfl,ab.f (ne _) (gq _ hI)⟩,trivial⟩,trivial⟩,trivial⟩,chg h5 λe u3 hc=>⟨_,rfl,⟨hc λu4 hI=>⟨_,rfl,ab.f (ne _) (gq _ hI)⟩,trivial⟩,trivial⟩,trivial⟩
  ·rintro u2 qc ⟨fw,y2,rU,XG,rS,h5⟩
   exact ab.f (by simp) (hk n r x fw fW y2 u2 hT hM (λe he=>⟨by have:=(XG e he).1;omega,(XG e he).2⟩) (by omega) eZ rU h5)
theorem dS(u:Mem):aa prog 19 [] u λv u'=>∃x,v=(pB x)/\wk (pB x)=pB true:=UX.call ⟨_,rfl,rfl⟩
set_option maxRecDepth 100000
theorem qK:ownKnob prog.godebug=none:=by kernel_rfl
theorem dj:laidOutB prog=true:=by kernel_rfl
section
variable {w:World}
theorem sk:prog.cellsOf 3=1:=by kernel_rfl
theorem lV:prog.cellsOf 4=1:=by kernel_rfl
theorem pW:prog.cellsOf 9=1:=by kernel_rfl
theorem jS:prog.cellsOf 60=3:=by kernel_rfl
theorem aaA:prog.cellsOf 147=1:=by kernel_rfl
theorem Sl:prog.cellsOf 149=6:=by kernel_rfl
theorem NX:prog.cellsOf 26=1:=by kernel_rfl
theorem LZ:prog.cellsOf 28=7:=by kernel_rfl
theorem NY:prog.cellsOf 22=1:=by kernel_rfl
theorem kN(n:Nat)(cs:List Value)(h:Reads prog w n 60 cs):∃s:Sym,bF (gA w) s.pv cs/\True:=by
 obtain⟨m,rfl,hl,hf⟩:=h.struct underlying60
 rw[jS]at hl
 obtain⟨i0,e0,_⟩:=(dR hf 0 0 sk rfl rfl rfl).CQ underlying3
 obtain⟨i1,e1,_⟩:=(dR hf 1 1 pW rfl rfl rfl).Qb underlying9
 obtain⟨i2,e2,_⟩:=(dR hf 2 2 sk rfl rfl rfl).CQ underlying3
 match cs,hl with
 |[x0,x1,x2],_=>exact⟨⟨_,_,_⟩,(e0.append e1).append e2,trivial⟩
theorem aaK(n:Nat)(cs:List Value)(h:Reads prog w n 147 cs):∃l:List Sym,bF (gA w) [.list 3 .sh (l.map Sym.pv)] cs/\(∀s∈l,True)/\l.length<=maxLen:=
 h.FY underlying147 jS (by omega) λm cs _ hr=>kN m cs hr
theorem aaI(n:Nat)(cs:List Value)(h:Reads prog w n 149 cs):∃t:Test,bF (gA w) t.pv cs/\True:=by
 obtain⟨m,rfl,hl,hf⟩:=h.struct underlying149
 rw[Sl]at hl
 obtain⟨i0,e0,_⟩:=(dR hf 0 0 sk rfl rfl rfl).CQ underlying3
 obtain⟨i1,e1,_⟩:=(dR hf 1 1 pW rfl rfl rfl).Qb underlying9
 obtain⟨s,e2,_⟩:=kN _ _ (dR hf 2 2 jS rfl rfl rfl)
 obtain⟨l,e3,_⟩:=aaK _ _ (dR hf 3 5 aaA rfl rfl rfl)
 match cs,hl with
 |[x0,x1,x2,x3,x4,x5],_=>exact⟨⟨_,_,s,l⟩,((e0.append e1).append e2).append e3,trivial⟩
theorem Oh(n:Nat)(cs:List Value)(h:Reads prog w n 26 cs):∃l:List Test,bF (gA w) [.list 6 .sh (l.map Test.pv)] cs/\(∀s∈l,True)/\l.length<=maxLen:=
 h.FY underlying26 Sl (by omega) λm cs _ hr=>aaI m cs hr
theorem Mo:∀(n:Nat) (cs:List Value),Reads prog w n 28 cs->∃c:ae,bF (gA w) c.pv cs/\True:=by
 intro n
 induction n using Nat.strongRecOn with
 |ind n ih=>
  intro cs h
  obtain⟨m,rfl,hl,hf⟩:=h.struct underlying28
  rw[LZ]at hl
  obtain⟨i0,e0,_⟩:=(dR hf 0 0 sk rfl rfl rfl).CQ underlying3
  obtain⟨i1,e1⟩:=(dR hf 1 1 lV rfl rfl rfl).pbool underlying4
  obtain⟨i2,e2,_⟩:=(dR hf 2 2 pW rfl rfl rfl).Qb underlying9
  obtain⟨a3,e3,_⟩:=Oh _ _ (dR hf 3 3 NX rfl rfl rfl)
  obtain⟨a4,e4,_⟩:=Oh _ _ (dR hf 4 4 NX rfl rfl rfl)
  obtain⟨i5,e5⟩:=(dR hf 5 5 lV rfl rfl rfl).pbool underlying4
  obtain⟨l,e6,_⟩:=(dR hf 6 6 NY rfl rfl rfl).FY (pv:=ae.pv) (Q:=λ_=>True) underlying22 LZ (by omega) λm' Wr hm hr=>ih m' (by omega) Wr hr
  match cs,hl with
  |[x0,x1,x2,x3,x4,x5,x6],_=>
   refine⟨.mk i0 i1 i2 a3 a4 i5 l,?_,trivial⟩
   rw[ae.cP]
   exact(((((e0.append e1).append e2).append e3).append e4).append e5).append e6
theorem Xb(n:Nat)(cs:List Value)(h:Reads prog w n 22 cs):∃l:List ae,bF (gA w) [.list 7 .sh (l.map ae.pv)] cs/\(∀s∈l,True)/\l.length<=maxLen:=
 h.FY underlying22 LZ (by omega) λm cs _ hr=>Mo m cs hr
end
section
variable {w:World}
theorem Cn:prog.cellsOf 62=4:=by kernel_rfl
theorem Sm:prog.cellsOf 64=9:=by kernel_rfl
theorem Sn:prog.cellsOf 66=19:=by kernel_rfl
theorem WL:prog.cellsOf 23=1:=by kernel_rfl
theorem Cm:prog.cellsOf 25=3:=by kernel_rfl
theorem Hk(n:Nat)(cs:List Value)(h:Reads prog w n 62 cs):∃s:Atom,bF (gA w) s.pv cs/\True:=by
 obtain⟨m,rfl,hl,hf⟩:=h.struct underlying62
 rw[Cn]at hl
 obtain⟨i0,e0,_⟩:=(dR hf 0 0 pW rfl rfl rfl).Qb underlying9
 obtain⟨s,e1,_⟩:=kN _ _ (dR hf 1 1 jS rfl rfl rfl)
 match cs,hl with
 |[x0,x1,x2,x3],_=>exact⟨⟨_,s⟩,e0.append e1,trivial⟩
theorem aaJ(n:Nat)(cs:List Value)(h:Reads prog w n 64 cs):∃s:Term,bF (gA w) s.pv cs/\True:=by
 obtain⟨m,rfl,hl,hf⟩:=h.struct underlying64
 rw[Sm]at hl
 obtain⟨i0,e0,_⟩:=(dR hf 0 0 sk rfl rfl rfl).CQ underlying3
 obtain⟨a,e1,_⟩:=Hk _ _ (dR hf 1 1 Cn rfl rfl rfl)
 obtain⟨b,e2,_⟩:=Hk _ _ (dR hf 2 5 Cn rfl rfl rfl)
 match cs,hl with
 |[x0,x1,x2,x3,x4,x5,x6,x7,x8],_=>exact⟨⟨_,a,b⟩,(e0.append e1).append e2,trivial⟩
theorem aaN(n:Nat)(cs:List Value)(h:Reads prog w n 66 cs):∃s:dh,bF (gA w) s.pv cs/\True:=by
 obtain⟨m,rfl,hl,hf⟩:=h.struct underlying66
 rw[Sn]at hl
 obtain⟨i0,e0,_⟩:=(dR hf 0 0 pW rfl rfl rfl).Qb underlying9
 obtain⟨a,e1,_⟩:=Hk _ _ (dR hf 1 1 Cn rfl rfl rfl)
 obtain⟨t,e2,_⟩:=aaJ _ _ (dR hf 2 5 Sm rfl rfl rfl)
 obtain⟨i3,e3,_⟩:=(dR hf 3 14 sk rfl rfl rfl).CQ underlying3
 obtain⟨o,e4,_⟩:=Hk _ _ (dR hf 4 15 Cn rfl rfl rfl)
 match cs,hl with
 |[x0,x1,x2,x3,x4,x5,x6,x7,x8,x9,Y_,x11,x12,x13,x14,x15,x16,x17,x18],_=>exact⟨⟨_,a,t,_,o⟩,(((e0.append e1).append e2).append e3).append e4,trivial⟩
theorem vv(n:Nat)(cs:List Value)(h:Reads prog w n 25 cs):∃p:aK.Prod,bF (gA w) p.pv cs/\True:=by
 obtain⟨m,rfl,hl,hf⟩:=h.struct underlying25
 rw[Cm]at hl
 obtain⟨i0,e0,_⟩:=(dR hf 0 0 pW rfl rfl rfl).Qb underlying9
 obtain⟨c,e1,_⟩:=Xb _ _ (dR hf 1 1 NY rfl rfl rfl)
 obtain⟨a,e2,_⟩:=(dR hf 2 2 WL rfl rfl rfl).FY (pv:=dh.pv) (Q:=λ_=>True) underlying23 Sn (by omega) λm' Wr hm hr=>aaN m' Wr hr
 match cs,hl with
 |[x0,x1,x2],_=>exact⟨⟨_,c,a⟩,(e0.append e1).append e2,trivial⟩
end
end Go.Proofs.YtbodiiomcfgokaaGreat
