import Derived.Test.YtbodiiomcfgokaaGreatB09
set_option linter.all false
namespace Go.Proofs.YtbodiiomcfgokaaGreat
open Go.Proofs.Tryz Go.aK Go.RowKit
theorem vH{n me mm:Nat}{es:List af}{ms:dL}{L:List aY}{μ:Mem}(h:Ow (AM.cU mm (ms.map ku)::(Pt n 294 [pP me 0,pP mm 0]::AE.cU me (es.map pK)::(ms.map eo++L))) μ):Ow (bV n es ms::L) μ:=bV.shut (h.swap.tail λ_ h=>h.swap)
theorem getM(k:Int)(ms:dL):aL AM.ck AM.key (AM.key (k,AM.z)) (ms.map ku)=(aL aA cA k ms).map ku:=ql
theorem QM(t:Int)(es:List af):aL AE.ck AE.key (AE.key (t,AE.z)) (es.map pK)=(aL aA aH t es).map pK:=ql
theorem map_none{α β:Type}{f:α->β}{o:Option α}(h:o.map f=none):o=none:=by
 cases o with
 |none=>rfl
 |some x=>cases h
def lh(k:Int)(ms:dL):dL:=
 match aL aA cA k ms with
 |none=>ms
 |some x=>if x.2.aU=1 then bq aA cA k ms else bc aA cA (k,{x.2 with aU:=x.2.aU-1}) ms
theorem eC.leave{es:List af}{ms:dL}(h:eC es ms)(k:Int):eC es (lh k ms):=by
 unfold lh
 split
 ·exact h
 ·rename_i x hx
  obtain⟨h1,h2⟩:=(aM ax h.pJ).1 hx
  have hu:=h.aU x h1
  split
  ·exact h.del k
  ·exact h.kB h1 (x':=(k,{x.2 with aU:=x.2.aU-1})) h2.symm rfl rfl ⟨by show 1<=x.2.aU-1;omega,by show x.2.aU-1<1000000;omega⟩
theorem YC{L:List aY}{μ:Mem}{n:Nat}{es:List af}{ms:dL}(hO:Ow (bV n es ms::L) μ)(hI:eC es ms)(k:Int){K:Kq}(hk:∀μ',Ow (bV n es (lh k ms)::L) μ'->K (pB (aL aA cA k ms).isSome) μ'):aa prog 171 [pP n 0,pI k] μ K:=by
 obtain⟨me,mm,h⟩:=bV.open_ hO
 have hlm:=hI.lm
 refine yY.c ⟨_,h.rd 0 rfl (by simp),AM.gO (Ow.at 2 rfl h) hI.um (by simp;omega) k (λy μ' hy h'=>?_) (λμ' hy h'=>?_)⟩
 ·rw[getM]at hy
  obtain⟨x,hx,rfl⟩:=Option.map_eq_some_iff.1 hy
  obtain⟨IU,hxk⟩:=(aM ax hI.pJ).1 hx
  have Qw:=hI.aU x IU
  have hw:IntKind.wrap .i64 (x.2.aU-1)=x.2.aU-1:=az (by omega) (by omega)
  refine⟨_,_,_,_,_,_,_,_,_,_,_,_,_,rfl,ab.f rfl (ab.mk (λh1=>?_) (λh1=>?_))⟩
  ·have h1:x.2.aU=1:=by
    have:IntKind.wrap .i64 (x.2.aU-1)=0:=by simpa[ku,fM.aev]using h1
    omega
   refine⟨_,h'.rd 1 rfl (by simp),AM.jA h' hI.um (by simp;omega) k (λy2 μ2 HI h2=>?_) (λμ2 HI h2=>?_)⟩
   ·refine⟨_,_,_,_,_,_,_,_,_,_,_,_,_,rfl,?_⟩
    have:=hk μ2
    rw[hx]at this
    refine this ?_
    have e1:lh k ms=bq aA cA k ms:=by unfold lh;rw[hx];exact if_pos h1
    rw[e1]
    obtain⟨A,B,e,ed,_⟩:=hI.pJ.at_ ax IU
    have aeG:cA x=k:=hxk
    rw[aeG]at ed
    refine vH (mm:=mm) (me:=me) ?_
    have hdm:bq AM.ck AM.key (AM.key (k,AM.z)) (ms.map ku)=(bq aA cA k ms).map ku:=sX
    rw[hdm]at h2
    have e2:ms.map eo=A.map eo++eo x::B.map eo:=by rw[e];simp
    rw[e2]at h2
    have h3:=(Ow.pick (P:=[AM.cU mm ((bq aA cA k ms).map ku),Pt n 294 [pP me 0,pP mm 0],AE.cU me (es.map pK)]) h2).drop
    have e3:(bq aA cA k ms).map eo=A.map eo++B.map eo:=by rw[ed,List.map_append]
    rw[e3]
    exact h3
   ·rw[getM,hx]at HI;cases HI
  ·have h1:x.2.aU≠1:=λe=>by
    have Gw:(IntKind.wrap .i64 (x.2.aU-1) == 0)=false:=h1
    rw[hw,e]at Gw;simp at Gw
   refine⟨_,h'.rd 1 rfl (by simp),?_⟩
   show aa _ _ [pP mm 0,pI k,.agg [_,_,_,_,_,_,_,pI (IntKind.wrap .i64 (x.2.aU-1)),_]] _ _
   rw[hw]
   refine AM.oZ h' hI.um (by simp;omega) k ⟨x.2.c,x.2.aU-1,some ⟨x.2.b,0,none⟩⟩ λμ2 h2=>⟨_,rfl,?_⟩
   have:=hk μ2
   rw[hx]at this
   refine this ?_
   have e1:lh k ms=bc aA cA (k,{x.2 with aU:=x.2.aU-1}) ms:=by unfold lh;rw[hx];exact if_neg h1
   rw[e1]
   refine vH (mm:=mm) (me:=me) ?_
   rw[Jw hI IU (x':=(k,{x.2 with aU:=x.2.aU-1})) hxk.symm rfl]
   have e2:bc AM.ck AM.key (k,⟨x.2.c,x.2.aU-1,some ⟨x.2.b,0,none⟩⟩) (ms.map ku)=(bc aA cA (k,{x.2 with aU:=x.2.aU-1}) ms).map ku:=nQ (f:=ku) (x:=(k,{x.2 with aU:=x.2.aU-1}))
   rw[e2]at h2
   exact h2
 ·rw[getM]at hy
  have hx:=map_none hy
  refine⟨_,_,_,_,_,_,_,_,_,_,_,_,_,rfl,ab.t rfl ?_⟩
  have:=hk μ'
  rw[hx]at this
  refine this ?_
  have e1:lh k ms=ms:=by unfold lh;rw[hx]
  rw[e1]
  exact vH h'
theorem acz{L:List aY}{μ:Mem}{n:Nat}{es:List af}{ms:dL}(hO:Ow (bV n es ms::L) μ)(hI:eC es ms)(aiX:ms.length+1<1000000)(Qw:∀x∈ms,x.2.aU+1<1000000)(c:ae)(hl:cr c){K:Kq}
  (jw:∀x∈ms,x.2.c=bO c->∀μ',Ow (bV n es (bc aA cA (x.1,{x.2 with aU:=x.2.aU+1}) ms)::L) μ'->K (pI x.1) μ')
  (EE:(∀x∈ms,x.2.c≠bO c)->∀μ' b,Ow (bV n es (bc aA cA (least ms,⟨bO c,1,b,es.filter (bw (bO c))⟩) ms)::L) μ'->K (pI (least ms)) μ'):aa prog 166 [pP n 0,.agg (cc c)] μ K:=by
 obtain⟨me,mm,h⟩:=bV.open_ hO
 have hlm:=hI.lm
 have hle:=hI.le
 have ZR:=Eb hl
 have hbb:=GO hl
 obtain⟨_,bl1,bl2,bl3,bl4,_⟩:=(bu _).1 ZR
 refine Av.c λb2 rU b3 DB b4 xv=>?_
 have O1:=h.new 132 [pP n 0] rU
 have O2:=O1.new 28 (cc c) DB
 have O3:=O2.new 3 [pI 0] xv
 refine⟨_,_,_,_,_,_,_,_,_,_,O3.rd 1 rfl (by simp),(af7 c .sh .sh .sh hl).call ⟨_,_,_,_,_,_,_,_,_,_,rfl,O3.st 1 rfl (by simp) λu1 O4=>λb5 ZS=>?_⟩⟩
 refine(O4.new 287 [pI 0] ZS).st 0 rfl (by simp) λu2 O5=>?_
 refine⟨_,O5.rd 3 rfl (by simp),_,O5.rd 4 rfl (by simp),(AM.o_ mm).call ⟨_,_,_,rfl,?_⟩⟩
 have nR:((ms.map ku).map λx=>[AM.db x.1,AM.gI x.2]).length=ms.length:=by simp
 refine bk.own (AM.fG mm (ms.map ku) (by simp;omega)) (Ow.at 6 rfl O5)
  (λk u=>(∀x∈ms.take k,x.2.c≠bO c)/\Ow (AM.cU mm (ms.map ku)::Pt b5 287 [pI (least (ms.take k))]::Pt b4 3 [pI 0]::Pt b3 28 (cc (bO c))::Pt b2 132 [pP n 0]::Pt n 294 [pP me 0,pP mm 0]::AE.cU me (es.map pK)::(ms.map eo++L)) u)
  (λcd u=>cd=.ret/\∃x∈ms,x.2.c=bO c/\Ow (Pt b4 3 [pI x.1]::bV n es (bc aA cA (x.1,{x.2 with aU:=x.2.aU+1}) ms)::L) u)
  (λk=>fJ.and (fJ.own _)) (λcd=>fJ.and λμ μ' hs ⟨x,h1,h2,h3⟩=>⟨x,h1,h2,h3.mono hs⟩) (λμ' h'=>⟨by simp,h'⟩) ?_ ?_ ?_
 ·rintro k hk u R ⟨cm,hO⟩ bU kg
  have bW:k<ms.length:=by simpa using hk
  have IU:ms[k]∈ms:=List.getElem_mem bW
  have hb:=hI.bare _ IU
  obtain⟨_,l1,l2,l3,l4,_⟩:=(bu _).1 hb.qf
  have hux:=hI.aU _ IU
  have amX:=Qw _ IU
  obtain⟨le0,le1,_,_⟩:=Dk (ms.take k) (List.Pairwise.sublist (List.take_sublist _ _) hI.pJ) λx hx=>(hI.num x (List.mem_of_mem_take hx)).1
  rw[List.getElem_map,List.getElem_map]
  have Zj:ms[k].2.c≠bO c->∀x∈ms.take (k+1),x.2.c≠bO c:=λaT x hx=>by
   rw[List.take_add_one,List.getElem?_eq_getElem bW,List.mem_append]at hx
   rcases hx with hx|hx
   ·exact cm x hx
   ·simp at hx;rw[hx];exact aT
  refine⟨_,_,_,_,_,_,_,_,_,_,_,_,_,rfl,λ_ u=>ms[k].2.c≠bO c/\Ow (AM.cU mm (ms.map ku)::Pt b5 287 [pI (least (ms.take k))]::Pt b4 3 [pI 0]::Pt b3 28 (cc (bO c))::Pt b2 132 [pP n 0]::Pt n 294 [pP me 0,pP mm 0]::AE.cU me (es.map pK)::(ms.map eo++L)) u,?_,?_⟩
  ·refine⟨_,hO.rd 3 rfl (by simp),ab.mk (λg1=>⟨_,hO.rd 3 rfl (by simp),ab.mk (λg2=>⟨_,_,hO.rd 3 rfl (by simp),?_⟩) (λg2=>⟨λe=>?_,hO⟩)⟩) (λg1=>⟨λe=>?_,hO⟩)⟩
   ·refine(aaf _ _ ms[k].2.c.attr (bO c).attr (by omega) (cI l3)).call (λe1=>⟨_,rfl,ab.t rfl ⟨_,_,hO.rd 3 rfl (by simp),?_⟩⟩) (λaT=>⟨_,rfl,ab.f rfl ⟨λe=>aT (by rw[e]),hO⟩⟩)
    refine(aaf _ _ ms[k].2.c.value (bO c).value (by omega) (cI l4)).call (λe2=>⟨_,rfl,ab.t rfl ⟨_,hO.rd 4 rfl (by simp),_,hO.rd 5 rfl (by simp),?_⟩⟩) (λaT=>⟨_,rfl,ab.f rfl ⟨λe=>aT (by rw[e]),hO⟩⟩)
    have g1':(ms[k].2.c.goal == (bO c).goal)=true:=g1
    have g2':(ms[k].2.c.acc == (bO c).acc)=true:=g2
    have ec:ms[k].2.c=bO c:=hb.eq hbb (by simpa using g1') (by simpa using g2') e1 e2
    have hw:IntKind.wrap .i64 (ms[k].2.aU+1)=ms[k].2.aU+1:=az (by omega) (by omega)
    show aa _ _ [pP mm 0,pI ms[k].1,.agg [_,_,_,_,_,_,_,pI (IntKind.wrap .i64 (ms[k].2.aU+1)),_]] _ _
    rw[hw]
    refine AM.oZ hO hI.um (by simp;omega) ms[k].1 ⟨ms[k].2.c,ms[k].2.aU+1,some ⟨ms[k].2.b,0,none⟩⟩ λμ2 h2=>⟨_,rfl,h2.st 2 rfl (by simp) λμ3 h3=>kg _ _ ⟨rfl,ms[k],IU,ec,?_⟩⟩
    have e2:bc AM.ck AM.key (ms[k].1,⟨ms[k].2.c,ms[k].2.aU+1,some ⟨ms[k].2.b,0,none⟩⟩) (ms.map ku)=(bc aA cA (ms[k].1,{ms[k].2 with aU:=ms[k].2.aU+1}) ms).map ku:=nQ (f:=ku) (x:=(ms[k].1,{ms[k].2 with aU:=ms[k].2.aU+1}))
    rw[e2]at h3
    refine(Ow.at 2 rfl h3).tail λν h4=>vH (mm:=mm) (me:=me) ?_
    rw[Jw hI IU (x':=(ms[k].1,{ms[k].2 with aU:=ms[k].2.aU+1})) rfl rfl]
    exact h4.tail λν h5=>h5.drop.drop.drop
   ·have g2':(ms[k].2.c.acc == (bO c).acc)=false:=g2
    rw[e]at g2';simp at g2'
   ·have g1':(ms[k].2.c.goal == (bO c).goal)=false:=g1
    rw[e]at g1';simp at g1'
  ·rintro _ u ⟨aT,hO⟩
   have cz:=Dj bW
   refine⟨_,hO.rd 1 rfl (by simp),ab.mk (λg=>⟨_,hO.rd 1 rfl (by simp),hO.st 1 rfl (by simp) λu3 h3=>bU _ ⟨Zj aT,?_⟩⟩) (λg=>bU _ ⟨Zj aT,?_⟩)⟩
   ·have g:ms[k].1=least (ms.take k):=by simpa[ku]using g
    rw[if_pos g]at cz
    rw[cz]
    have hw:IntKind.wrap .i64 (least (ms.take k)+1)=least (ms.take k)+1:=az (by omega) (by rw[List.length_take]at le1;omega)
    have Z_:Ow (AM.cU mm (ms.map ku)::Pt b5 287 [pI (IntKind.wrap .i64 (least (ms.take k)+1))]::Pt b4 3 [pI 0]::Pt b3 28 (cc (bO c))::Pt b2 132 [pP n 0]::Pt n 294 [pP me 0,pP mm 0]::AE.cU me (es.map pK)::(ms.map eo++L)) u3:=h3
    rw[hw]at Z_
    exact Z_
   ·have g:ms[k].1≠least (ms.take k):=by simpa[ku]using g
    rw[if_neg g]at cz
    rw[cz];exact hO
 ·rintro u ⟨cm,hO⟩
  rw[nR,List.take_length]at cm hO
  obtain⟨aiO,alL⟩:=hI.new hbb cm 0 aiX
  have hun:ca AT.ck AT.key (es.filter (bw (bO c))):=ca.filter hI.ua _
  refine⟨λs u=>∃b8 b,s=some ⟨b8,0,none⟩/\Ow (Pt b8 292 (cc (bO c)++[pI 1,pP b 0])::AT.At b []::AE.cU me (es.map pK)::AM.cU mm (ms.map ku)::Pt b5 287 [pI (least ms)]::Pt b4 3 [pI 0]::Pt b3 28 (cc (bO c))::Pt b2 132 [pP n 0]::Pt n 294 [pP me 0,pP mm 0]::(ms.map eo++L)) u,?_,?_⟩
  ·have hO:=Ow.at 6 rfl hO
   refine⟨_,_,_,_,_,_,_,_,_,_,hO.rd 4 rfl (by simp),?_,λb8 uj=>?_⟩
   ·refine aa.q (AT.iy (L:=[]) trivial .nil [] (by simp) (K:=λp μ'=>∃b,p=pP b 0/\Ow [AT.At b []] μ') λμ' b hb=>⟨b,rfl,hb⟩) ?_
    rintro _ ν vU ⟨b,rfl,hb⟩
    refine⟨_,rfl,λb8 uj=>?_⟩
    have h1:=hO.side vU hb
    exact(h1.new 292 _ uj).st 0 rfl (by simp) λu3 h3=>⟨b8,b,rfl,h3⟩
   ·have h1:=hO.new 292 [pI 0,pB false,pS ⟨#[]⟩,.list 6 .nil [],.list 6 .nil [],pB false,.list 7 .nil [],pI 0,.raw (.pointer none)] uj
    refine aa.q (AT.iy (L:=[]) trivial .nil [] (by simp) (K:=λp μ'=>∃b,p=pP b 0/\Ow [AT.At b []] μ') λμ' b hb=>⟨b,rfl,hb⟩) ?_
    rintro _ ν vU ⟨b,rfl,hb⟩
    have h2:=h1.side vU hb
    exact⟨_,rfl,h2.st 1 rfl (by simp) λu3 h3=>⟨b8,b,rfl,Ow.swap h3⟩⟩
  ·rintro _ u ⟨b8,b,rfl,hO⟩
   refine⟨_,hO.rd 7 rfl (by simp),_,hO.rd 8 rfl (by simp),(AE.o_ me).call ⟨_,_,_,rfl,?_⟩⟩
   have IY:((es.map pK).map λx=>[AE.db x.1,AE.gI x.2]).length=es.length:=by simp
   refine bk.own (AE.fG me (es.map pK) (by simp;omega)) (Ow.at 2 rfl hO)
    (λk u=>Ow (AT.At b ((es.take k).filter (bw (bO c)))::AE.cU me (es.map pK)::Pt b8 292 (cc (bO c)++[pI 1,pP b 0])::AM.cU mm (ms.map ku)::Pt b5 287 [pI (least ms)]::Pt b4 3 [pI 0]::Pt b3 28 (cc (bO c))::Pt b2 132 [pP n 0]::Pt n 294 [pP me 0,pP mm 0]::(ms.map eo++L)) u)
    (λ_ _=>False) (λk=>fJ.own _) (λ_ _ _ _ h=>h.elim) (λμ' h'=>(h'.tail λ_ h=>h.swap).swap) ?_ ?_ ?_
   ·rintro k hk u R hO bU _
    have bW:k<es.length:=by simpa using hk
    rw[List.getElem_map,List.getElem_map]
    have iB:(es.take (k+1)).filter (bw (bO c))=(es.take k).filter (bw (bO c))++(if bw (bO c) es[k]=true then[es[k]]else[]):=by
     rw[List.take_add_one,List.getElem?_eq_getElem bW,List.filter_append]
     congr 1
     simp only[Option.toList_some,List.filter_cons,List.filter_nil]
    have eZ:∀x∈es.take k,aA (aH x) (aH es[k])<0:=λx hx=>by
     obtain⟨i,hi,rfl⟩:=List.mem_iff_getElem.1 hx
     rw[List.getElem_take]
     simp only[List.length_take]at hi
     exact List.pairwise_iff_getElem.1 hI.ua i k (by omega) bW (by omega)
    refine⟨_,_,_,_,_,_,_,_,_,_,_,_,_,rfl,_,_,_,_,_,_,_,_,_,_,hO.rd 6 rfl (by simp),(Vn (bO c) es[k] .sh .sh .sh ZR).call ⟨_,rfl,ab.mk (λhm=>?_) (λhm=>?_)⟩⟩
    ·refine⟨_,hO.rd 2 rfl (by simp),AT.gW hO (ca.filter (List.Pairwise.sublist (List.take_sublist _ _) hI.ua) _) (by
      have:=List.length_filter_le (bw (bO c)) (es.take k)
      have:(es.take k).length<=es.length:=by rw[List.length_take];omega
      omega) es[k] λu3 h3=>⟨_,rfl,bU _ ?_⟩⟩
     rw[iB,if_pos hm]
     have hp:et AT.ck AT.key es[k] ((es.take k).filter (bw (bO c)))=(es.take k).filter (bw (bO c))++[es[k]]:=Qa AT.hc λx hx=>eZ x (List.mem_filter.1 hx).1
     rw[hp]at h3
     exact h3
    ·refine bU _ ?_
     rw[iB,if_neg (by simp[hm]),List.append_nil]
     exact hO
   ·intro u hO
    rw[IY,List.take_length]at hO
    refine⟨_,hO.rd 7 rfl (by simp),_,hO.rd 8 rfl (by simp),_,hO.rd 4 rfl (by simp),_,_,_,_,_,_,_,_,_,_,_,_,hO.rd 2 rfl (by simp),?_⟩
    have Fe:=Ow.at 3 rfl hO
    refine AM.oZ Fe hI.um (by simp;omega) (least ms) ⟨bO c,1,some ⟨b,0,none⟩⟩ λu3 h3=>⟨_,rfl,_,h3.rd 4 rfl (by simp),h3.st 5 rfl (by simp) λu4 h4=>⟨_,h4.rd 5 rfl (by simp[dN]),EE cm u4 b ?_⟩⟩
    have e2:bc AM.ck AM.key (least ms,⟨bO c,1,some ⟨b,0,none⟩⟩) (ms.map ku)=(bc aA cA (least ms,⟨bO c,1,b,es.filter (bw (bO c))⟩) ms).map ku:=nQ (f:=ku) (x:=(least ms,⟨bO c,1,b,es.filter (bw (bO c))⟩))
    rw[e2]at h4
    refine vH (mm:=mm) (me:=me) ?_
    have mu:=(nc ax (x:=(least ms,(⟨bO c,1,b,es.filter (bw (bO c))⟩:fM))) (L:=ms) aiO).map eo
    have h5:Ow (AM.cU mm ((bc aA cA (least ms,⟨bO c,1,b,es.filter (bw (bO c))⟩) ms).map ku)::AT.At b (es.filter (bw (bO c)))::AE.cU me (es.map pK)::Pt n 294 [pP me 0,pP mm 0]::(ms.map eo++L)) u4:=h4.tail λ_ h=>h.tail λ_ h=>h.tail λ_ h=>h.drop.drop.drop.drop.drop
    refine h5.tail λ_ h6=>?_
    have h7:=(h6.tail λ_ h=>h.swap)
    have h8:Ow (Pt n 294 [pP me 0,pP mm 0]::AE.cU me (es.map pK)::(AT.At b (es.filter (bw (bO c)))::(ms.map eo++L))) _:=(h7.swap).tail λ_ h=>h.swap
    refine h8.tail λ_ h=>h.tail λ_ h9=>?_
    exact h9.perm (List.Perm.append_right L mu.symm)
   ·intro _ _ h;exact h.elim
 ·rintro cd u ⟨rfl,x,hx,ec,hO⟩
  exact⟨_,hO.rd 0 rfl (by simp),jw x hx ec u hO.drop⟩
@[reducible] def ir(k:Int):List PV:=[pI k]
@[reducible] def z12:List PV:=[pI 0,pS ⟨#[]⟩,pI 0,pI 0,pS ⟨#[]⟩,pI 0,pI 0,pS ⟨#[]⟩,pI 0,pB false,pB false,pI 0]
theorem Dy{e:af}{ms:dL}{k:Nat}(hk:k<ms.length):fS e (ms.take (k+1))=fS e (ms.take k)++(if bw ms[k].2.c e=true then[ms[k].1]else[]):=by
 unfold fS
 rw[List.take_add_one,List.getElem?_eq_getElem hk,List.filter_append,List.map_append]
 congr 1
 simp only[Option.toList_some,List.filter_cons,List.filter_nil]
 split<;>rfl
theorem tM(e:af)(ms:dL):(fS e ms).length<=ms.length:=by
 unfold fS;rw[List.length_map];exact List.length_filter_le _ _
theorem Cf{f:Int×fM->Int×fM}{ms:dL}{k:Nat}(hk:k<ms.length):((ms.take k).map f++ms.drop k).map eo=((ms.take k).map f).map eo++eo ms[k]::(ms.drop (k+1)).map eo:=by
 rw[List.map_append,List.drop_eq_getElem_cons hk,List.map_cons]
theorem BM{f:Int×fM->Int×fM}{ms:dL}{k:Nat}(hk:k<ms.length):((ms.take (k+1)).map f++ms.drop (k+1)).map eo=((ms.take k).map f).map eo++eo (f ms[k])::(ms.drop (k+1)).map eo:=by
 have e:(ms.take (k+1)).map f=(ms.take k).map f++[f ms[k]]:=dT hk
 rw[e,List.map_append,List.map_append,List.append_assoc];rfl
theorem Xg(e:af)(ms:dL):(ms.map (zr e)).map ku=ms.map ku:=by rw[List.map_map];rfl
theorem SV(t:Int)(ms:dL):(ms.map (rM t)).map ku=ms.map ku:=by rw[List.map_map];rfl
theorem af8{L:List aY}{μ:Mem}{n:Nat}{es:List af}{ms:dL}(hO:Ow (bV n es ms::L) μ)(hI:eC es ms)(e:af){K:Kq}
  (jw:(aL aA aH e.tag es).isSome=true->∀μ',Ow (bV n es ms::L) μ'->K (.aD [.list 1 .nil [],pI 3]) μ')
  (EE:aL aA aH e.tag es=none->∀μ' fl,Ow (bV n (bc aA aH e es) (ms.map (zr e))::L) μ'->K (.aD [.list 1 fl ((fS e ms).map ir),pI 0]) μ'):aa prog 147 [pP n 0,.agg e.pv] μ K:=by
 obtain⟨me,mm,h⟩:=bV.open_ hO
 have hlm:=hI.lm
 have hle:=hI.le
 refine BL.c λb3 DB=>?_
 have O1:=h.new 78 e.pv DB
 refine⟨λs u=>aL aA aH e.tag es=none/\Ow (Pt b3 78 e.pv::Pt n 294 [pP me 0,pP mm 0]::AE.cU me (es.map pK)::AM.cU mm (ms.map ku)::(ms.map eo++L)) u,?_,?_⟩
 ·have fin:∀{cs:List PV} {b6:Nat} {u:Mem} {q:Bool},Ow (Pt b6 78 cs::Pt b3 78 e.pv::Pt n 294 [pP me 0,pP mm 0]::AE.cU me (es.map pK)::AM.cU mm (ms.map ku)::(ms.map eo++L)) u->(q=true->(aL aA aH e.tag es).isSome=true)->(q=false->aL aA aH e.tag es=none)->ab q (K (.aD [.list 1 .nil [],pI 3]) u) (aL aA aH e.tag es=none/\Ow (Pt b3 78 e.pv::Pt n 294 [pP me 0,pP mm 0]::AE.cU me (es.map pK)::AM.cU mm (ms.map ku)::(ms.map eo++L)) u):=λ{cs b6 u q} hO h1 h2=>
   ab.mk (λhq=>jw (h1 hq) u (bV.shut hO.drop.drop)) (λhq=>⟨h2 hq,hO.drop⟩)
  refine⟨_,O1.rd 1 rfl (by simp),_,O1.rd 0 rfl (by simp),?_,λb6 HR=>?_⟩
  ·refine AE.gO (Ow.at 2 rfl O1) hI.ue (by simp;omega) e.tag (λy μ' hy h'=>?_) (λμ' hy h'=>?_)
   ·refine⟨_,_,_,_,_,_,_,_,_,_,_,_,_,rfl,λb6 HR=>((h'.swap.tail λ_ h=>h.swap).new 78 z12 HR).st 0 rfl (by simp) λu2 h2=>fin h2 (λ_=>?_) (λhq=>by cases hq)⟩
    rw[QM]at hy
    cases hx:aL aA aH e.tag es with
    |none=>rw[hx]at hy;cases hy
    |some x=>rfl
   ·refine⟨_,_,_,_,_,_,_,_,_,_,_,_,_,rfl,λb6 HR=>((h'.swap.tail λ_ h=>h.swap).new 78 z12 HR).st 0 rfl (by simp) λu2 h2=>fin h2 (λhq=>by cases hq) (λ_=>?_)⟩
    rw[QM]at hy;exact map_none hy
  ·have O2:=O1.new 78 z12 HR
   refine AE.gO (Ow.at 3 rfl O2) hI.ue (by simp;omega) e.tag (λy μ' hy h'=>?_) (λμ' hy h'=>?_)
   ·refine⟨_,_,_,_,_,_,_,_,_,_,_,_,_,rfl,(Ow.at 1 rfl h').st 0 rfl (by simp) λu2 h2=>fin (h2.tail λ_ h=>h.swap.tail λ_ h=>h.swap) (λ_=>?_) (λhq=>by cases hq)⟩
    rw[QM]at hy
    cases hx:aL aA aH e.tag es with
    |none=>rw[hx]at hy;cases hy
    |some x=>rfl
   ·refine⟨_,_,_,_,_,_,_,_,_,_,_,_,_,rfl,(Ow.at 1 rfl h').st 0 rfl (by simp) λu2 h2=>fin (h2.tail λ_ h=>h.swap.tail λ_ h=>h.swap) (λhq=>by cases hq) (λ_=>?_)⟩
    rw[QM]at hy;exact map_none hy
 ·rintro⟨⟨_,_⟩,_⟩ u ⟨hn,hO⟩
  refine⟨_,hO.rd 1 rfl (by simp),_,hO.rd 0 rfl (by simp),_,_,_,_,_,_,_,_,_,_,_,_,hO.rd 0 rfl (by simp),?_⟩
  refine AE.oZ (Ow.at 2 rfl hO) hI.ue (by simp;omega) e.tag e λu1 h1=>⟨_,rfl,λb8 uj=>?_⟩
  have e1:bc AE.ck AE.key (e.tag,e) (es.map pK)=(bc aA aH e es).map pK:=nQ (f:=pK) (x:=e)
  rw[e1]at h1
  have h2:=h1.new 45 [.list 1 .nil []] uj
  refine⟨_,h2.rd 3 rfl (by simp),(AM.o_ mm).call ⟨_,_,_,rfl,?_⟩⟩
  have nR:((ms.map ku).map λx=>[AM.db x.1,AM.gI x.2]).length=ms.length:=by simp
  refine bk.own (AM.fG mm (ms.map ku) (by simp;omega)) (Ow.at 4 rfl h2)
   (λk u=>∃fl,Ow (Pt b8 45 [.list 1 fl ((fS e (ms.take k)).map ir)]::eH fl (fS e (ms.take k)).length 1::Pt b3 78 e.pv::AM.cU mm (ms.map ku)::AE.cU me ((bc aA aH e es).map pK)::Pt n 294 [pP me 0,pP mm 0]::(((ms.take k).map (zr e)++ms.drop k).map eo++L)) u)
   (λ_ _=>False) (λk=>fJ.ex λ_=>fJ.own _) (λ_ _ _ _ h=>h.elim) (λμ' h'=>⟨.nil,?_⟩) ?_ ?_ ?_
  ·have h3:Ow (Pt b8 45 [.list 1 .nil []]::Pt b3 78 e.pv::AM.cU mm (ms.map ku)::AE.cU me ((bc aA aH e es).map pK)::Pt n 294 [pP me 0,pP mm 0]::(ms.map eo++L)) μ':=by
    have a1:=h'.swap
    refine a1.tail λ_ h=>?_
    have a2:=(Ow.at 2 rfl h)
    exact a2
   refine h3.tail λ_ h=>Ow.nil ?_ (.inl rfl)
   simpa using h
  ·rintro k hk u R ⟨fl,hO⟩ bU _
   have bW:k<ms.length:=by simpa using hk
   have IU:ms[k]∈ms:=List.getElem_mem bW
   have hb:=(hI.bare _ IU).qf
   have Zq:=hI.ul IU
   have hht:=Dy (e:=e) bW
   have cz:=tM e (ms.take k)
   rw[List.length_take]at cz
   rw[List.getElem_map,List.getElem_map]
   rw[Cf bW]at hO
   have jd:=Ow.pick (P:=[Pt b8 45 [.list 1 fl ((fS e (ms.take k)).map ir)],eH fl (fS e (ms.take k)).length 1,Pt b3 78 e.pv,AM.cU mm (ms.map ku),AE.cU me ((bc aA aH e es).map pK),Pt n 294 [pP me 0,pP mm 0]]) hO
   refine⟨_,_,_,_,_,_,_,_,_,_,_,_,_,rfl,_,_,_,_,_,_,_,_,_,_,_,_,hO.rd 2 rfl (by simp),(Vn ms[k].2.c e .sh .sh .sh hb).call ⟨_,rfl,ab.mk (λhm=>?_) (λhm=>?_)⟩⟩
   ·refine⟨_,_,_,_,_,_,_,_,_,_,_,_,hO.rd 2 rfl (by simp),AT.gW (l:=ms[k].2.l) jd Zq.1 (by omega) e λu3 h3=>⟨_,rfl,_,_,h3.rd 1 rfl (by simp),?_⟩⟩
    have hs:eo (zr e ms[k])=AT.At ms[k].2.b (et AT.ck AT.key e ms[k].2.l):=by
     show AT.At ms[k].2.b (if bw ms[k].2.c e then _ else _)=_
     rw[if_pos hm];rfl
    have h4:=(Ow.at 2 rfl h3)
    refine Ow.app h4 (by simp) (by simp;omega) (by simp;omega) λf' u4 h5=>?_
    refine h5.st 2 rfl (by simp) λu6 h6=>bU _ ⟨f',?_⟩
    rw[BM bW,hs,hht,if_pos hm,List.map_append,List.length_append]
    refine Ow.vl (P:=[Pt b8 45 [.list 1 f' ((fS e (ms.take k)).map ir++[ms[k].1].map ir)],eH f' ((fS e (ms.take k)).length+[ms[k].1].length) 1,Pt b3 78 e.pv,AM.cU mm (ms.map ku),AE.cU me ((bc aA aH e es).map pK),Pt n 294 [pP me 0,pP mm 0]]) ?_
    have h7:Ow (eH f' ((fS e (ms.take k)).length+1) 1::AT.At ms[k].2.b (et AT.ck AT.key e ms[k].2.l)::Pt b8 45 [.list 1 f' ((fS e (ms.take k)).map ir++[[pI ms[k].1]])]::Pt b3 78 e.pv::AM.cU mm (ms.map ku)::AE.cU me ((bc aA aH e es).map pK)::Pt n 294 [pP me 0,pP mm 0]::((((ms.take k).map (zr e)).map eo++(ms.drop (k+1)).map eo)++L)) u6:=h6
    exact h7.swap.tail λ_ h=>h.swap
   ·refine bU _ ⟨fl,?_⟩
    have hs:eo (zr e ms[k])=eo ms[k]:=by
     show AT.At ms[k].2.b (if bw ms[k].2.c e then _ else _)=_
     have uY:bw ms[k].2.c e=false:=hm
     rw[if_neg (by simp[uY])];rfl
    have uY:bw ms[k].2.c e=false:=hm
    rw[BM bW,hs,hht,if_neg (by simp[uY]),List.append_nil]
    exact hO
  ·rintro u ⟨fl,hO⟩
   rw[nR,List.take_length,List.drop_length,List.append_nil]at hO
   refine⟨_,_,hO.rd 0 rfl (by simp),EE hn u fl ?_⟩
   refine bV.shut (me:=me) (mm:=mm) ?_
   rw[Xg]
   have h3:=hO.drop.drop.drop
   have h4:=Ow.at 2 rfl h3
   exact h4.tail λ_ h=>h.swap
  ·intro _ _ h;exact h.elim
theorem XS{es:List af}{ms:dL}(hI:eC es ms){x:Int×fM}(hx:x∈ms){e:af}(he:e∈es):(aL AT.ck AT.key (AT.key e) x.2.l).isSome=bw x.2.c e:=by
 rw[hI.has x hx]
 cases hm:bw x.2.c e with
 |true=>
  have:aL AT.ck AT.key (AT.key e) (es.filter (bw x.2.c))=some e:=(aM AT.hc (ca.filter hI.ua _)).2 ⟨List.mem_filter.2 ⟨he,hm⟩,rfl⟩
  rw[this];rfl
 |false=>
  have:aL AT.ck AT.key (AT.key e) (es.filter (bw x.2.c))=none:=(bx AT.hc).2 λy hy ey=>by
   have ML:=List.mem_filter.1 hy
   have:=ca.inj ax hI.ua ML.1 he ey
   rw[this,hm]at ML;cases ML.2
  rw[this];rfl
theorem acA{L:List aY}{μ:Mem}{n:Nat}{es:List af}{ms:dL}(hO:Ow (bV n es ms::L) μ)(hI:eC es ms)(t:Int){K:Kq}
  (EE:aL aA aH t es=none->∀μ',Ow (bV n es ms::L) μ'->K (.aD [.list 1 .nil [],pI 4]) μ')
  (jw:∀e,aL aA aH t es=some e->∀μ' fl,Ow (bV n (bq aA aH t es) (ms.map (rM t))::L) μ'->K (.aD [.list 1 fl ((fS e ms).map ir),pI 0]) μ'):aa prog 157 [pP n 0,pI t] μ K:=by
 obtain⟨me,mm,h⟩:=bV.open_ hO
 have hlm:=hI.lm
 have hle:=hI.le
 refine Ax.c ⟨_,h.rd 0 rfl (by simp),AE.jA (Ow.at 1 rfl h) hI.ue (by simp;omega) t (λy u1 hy h1=>?_) (λu1 hy h1=>?_)⟩
 ·rw[QM]at hy
  obtain⟨e,he,rfl⟩:=Option.map_eq_some_iff.1 hy
  obtain⟨QF,het⟩:=(aM ax hI.ua).1 he
  have het:e.tag=t:=het
  refine⟨_,_,_,_,_,_,_,_,_,_,_,_,_,rfl,λb6 HR=>(h1.new 78 z12 HR).st 0 rfl (by simp) λu2 h2=>ab.f rfl λb8 uj=>?_⟩
  have e1:bq AE.ck AE.key (AE.key (t,AE.z)) (es.map pK)=(bq aA aH t es).map pK:=sX
  rw[e1]at h2
  have h3:=h2.new 45 [.list 1 .nil []] uj
  refine⟨_,h3.rd 3 rfl (by simp),(AM.o_ mm).call ⟨_,_,_,rfl,?_⟩⟩
  have nR:((ms.map ku).map λx=>[AM.db x.1,AM.gI x.2]).length=ms.length:=by simp
  refine bk.own (AM.fG mm (ms.map ku) (by simp;omega)) (Ow.at 4 rfl h3)
   (λk u=>∃fl,Ow (Pt b8 45 [.list 1 fl ((fS e (ms.take k)).map ir)]::eH fl (fS e (ms.take k)).length 1::Pt b6 78 e.pv::AM.cU mm (ms.map ku)::AE.cU me ((bq aA aH t es).map pK)::Pt n 294 [pP me 0,pP mm 0]::(((ms.take k).map (rM t)++ms.drop k).map eo++L)) u)
   (λ_ _=>False) (λk=>fJ.ex λ_=>fJ.own _) (λ_ _ _ _ h=>h.elim) (λμ' h'=>⟨.nil,?_⟩) ?_ ?_ ?_
  ·have h4:Ow (Pt b8 45 [.list 1 .nil []]::Pt b6 78 e.pv::AM.cU mm (ms.map ku)::AE.cU me ((bq aA aH t es).map pK)::Pt n 294 [pP me 0,pP mm 0]::(ms.map eo++L)) μ':=by
    refine h'.swap.tail λ_ h=>?_
    exact h.swap
   refine h4.tail λ_ h=>Ow.nil ?_ (.inl rfl)
   simpa using h
  ·rintro k hk u R ⟨fl,hO⟩ bU _
   have bW:k<ms.length:=by simpa using hk
   have IU:ms[k]∈ms:=List.getElem_mem bW
   have Zq:=hI.ul IU
   have hht:=Dy (e:=e) bW
   have cz:=tM e (ms.take k)
   rw[List.length_take]at cz
   have ai6:=XS hI IU QF
   rw[List.getElem_map,List.getElem_map]
   rw[Cf bW]at hO
   have jd:=Ow.pick (P:=[Pt b8 45 [.list 1 fl ((fS e (ms.take k)).map ir)],eH fl (fS e (ms.take k)).length 1,Pt b6 78 e.pv,AM.cU mm (ms.map ku),AE.cU me ((bq aA aH t es).map pK),Pt n 294 [pP me 0,pP mm 0]]) hO
   have hs:eo (rM t ms[k])=AT.At ms[k].2.b (bq AT.ck AT.key (AT.key e) ms[k].2.l):=by
    have:AT.key e=t:=het
    rw[this];rfl
   refine⟨_,_,_,_,_,_,_,_,_,_,_,_,_,rfl,_,_,_,_,_,_,_,_,_,_,_,_,hO.rd 2 rfl (by simp),AT.ia (l:=ms[k].2.l) jd Zq.1 (by omega) e λu3 h3=>⟨_,rfl,?_⟩⟩
   rw[ai6]
   refine ab.mk (λhm=>⟨_,_,h3.rd 1 rfl (by simp),?_⟩) (λhm=>?_)
   ·have h4:=(Ow.at 2 rfl h3)
    refine Ow.app h4 (by simp) (by simp;omega) (by simp;omega) λf' u4 h5=>?_
    refine h5.st 2 rfl (by simp) λu6 h6=>bU _ ⟨f',?_⟩
    rw[BM bW,hs,hht,if_pos hm,List.map_append,List.length_append]
    refine Ow.vl (P:=[Pt b8 45 [.list 1 f' ((fS e (ms.take k)).map ir++[ms[k].1].map ir)],eH f' ((fS e (ms.take k)).length+[ms[k].1].length) 1,Pt b6 78 e.pv,AM.cU mm (ms.map ku),AE.cU me ((bq aA aH t es).map pK),Pt n 294 [pP me 0,pP mm 0]]) ?_
    have h7:Ow (eH f' ((fS e (ms.take k)).length+1) 1::AT.At ms[k].2.b (bq AT.ck AT.key (AT.key e) ms[k].2.l)::Pt b8 45 [.list 1 f' ((fS e (ms.take k)).map ir++[[pI ms[k].1]])]::Pt b6 78 e.pv::AM.cU mm (ms.map ku)::AE.cU me ((bq aA aH t es).map pK)::Pt n 294 [pP me 0,pP mm 0]::((((ms.take k).map (rM t)).map eo++(ms.drop (k+1)).map eo)++L)) u6:=h6
    exact h7.swap.tail λ_ h=>h.swap
   ·refine bU _ ⟨fl,?_⟩
    rw[BM bW,hs,hht,if_neg (by simp[hm]),List.append_nil]
    exact Ow.vl (P:=[Pt b8 45 [.list 1 fl ((fS e (ms.take k)).map ir)],eH fl (fS e (ms.take k)).length 1,Pt b6 78 e.pv,AM.cU mm (ms.map ku),AE.cU me ((bq aA aH t es).map pK),Pt n 294 [pP me 0,pP mm 0]]) h3
  ·rintro u ⟨fl,hO⟩
   rw[nR,List.take_length,List.drop_length,List.append_nil]at hO
   refine⟨_,_,hO.rd 0 rfl (by simp),jw e he u fl ?_⟩
   refine bV.shut (me:=me) (mm:=mm) ?_
   rw[SV]
   have h4:=Ow.at 2 rfl hO.drop.drop.drop
   exact h4.tail λ_ h=>h.swap
  ·intro _ _ h;exact h.elim
 ·rw[QM]at hy
  refine⟨_,_,_,_,_,_,_,_,_,_,_,_,_,rfl,λb6 HR=>(h1.new 78 z12 HR).st 0 rfl (by simp) λu2 h2=>ab.t rfl (EE (map_none hy) u2 (bV.shut (Ow.swap h2.drop)))⟩
@[reducible] def inF(n:Nat)(k:Int):PV:=.fn (.func 280) [] [.bn [pP n 0] 0,.bn [pI k] 0]
theorem cIn(n:Nat)(k:Int):Pure prog 234 [pP n 0,pI k] (inF n k):=ao.of (Ey.c rfl)
def XD(k:Int)(ms:dL):List af:=((aL aA cA k ms).map λx=>x.2.l).getD []
theorem ad4(n:Nat)(k:Int){es:List af}{ms:dL}(hI:eC es ms):iT prog (inF n k) ((XD k ms).map λe=>[.agg e.pv]) (bV n es ms) (bV n es ms):=by
 refine iT.mk λfy ya yb I S C μ hy hO h0 df=>?_
 show aa _ _ [.fn fy ya yb,.bn [pP n 0] 0,.bn [pI k] 0] _ _
 obtain⟨me,mm,h⟩:=bV.open_ hO
 have hlm:=hI.lm
 refine Aw.c λb3 DB=>?_
 have O1:=h.new 171 [.fn fy ya yb] DB
 refine⟨λs u=>∃b4,s.1=some ⟨b4,0,none⟩/\((∃x,aL aA cA k ms=some x/\s.2=true/\Ow (Pt b4 292 (cc x.2.c++[pI x.2.aU,pP x.2.b 0])::AM.cU mm (ms.map ku)::Pt b3 171 [.fn fy ya yb]::Pt n 294 [pP me 0,pP mm 0]::AE.cU me (es.map pK)::(ms.map eo++[C])) u)\/(aL aA cA k ms=none/\s.2=false/\Ow (AM.cU mm (ms.map ku)::Pt b3 171 [.fn fy ya yb]::Pt n 294 [pP me 0,pP mm 0]::AE.cU me (es.map pK)::(ms.map eo++[C])) u)),⟨_,rfl,_,O1.rd 1 rfl (by simp),_,rfl,?_,λb4 xv=>?_⟩,?_⟩
 ·refine AM.gO (Ow.at 3 rfl O1) hI.um (by simp;omega) k (λy μ' hy h'=>?_) (λμ' hy h'=>?_)
  ·rw[getM]at hy
   obtain⟨x,hx,rfl⟩:=Option.map_eq_some_iff.1 hy
   exact⟨_,_,_,_,_,_,_,_,_,_,_,_,_,rfl,λb4 xv=>(h'.new 292 _ xv).st 0 rfl (by simp) λu2 h2=>⟨b4,rfl,.inl ⟨x,hx,rfl,h2⟩⟩⟩
  ·rw[getM]at hy
   exact⟨_,_,_,_,_,_,_,_,_,_,_,_,_,rfl,λb4 xv=>(h'.new 292 _ xv).st 0 rfl (by simp) λu2 h2=>⟨b4,rfl,.inr ⟨map_none hy,rfl,h2.drop⟩⟩⟩
 ·have O2:=O1.new 292 [pI 0,pB false,pS ⟨#[]⟩,.list 6 .nil [],.list 6 .nil [],pB false,.list 7 .nil [],pI 0,.raw (.pointer none)] xv
  refine AM.gO (Ow.at 4 rfl O2) hI.um (by simp;omega) k (λy μ' hy h'=>?_) (λμ' hy h'=>?_)
  ·rw[getM]at hy
   obtain⟨x,hx,rfl⟩:=Option.map_eq_some_iff.1 hy
   exact⟨_,_,_,_,_,_,_,_,_,_,_,_,_,rfl,h'.st 1 rfl (by simp) λu2 h2=>⟨b4,rfl,.inl ⟨x,hx,rfl,Ow.swap h2⟩⟩⟩
  ·rw[getM]at hy
   exact⟨_,_,_,_,_,_,_,_,_,_,_,_,_,rfl,h'.st 1 rfl (by simp) λu2 h2=>⟨b4,rfl,.inr ⟨map_none hy,rfl,(Ow.swap h2).drop⟩⟩⟩
 ·rintro⟨_,q⟩ u ⟨b4,rfl,⟨x,hx,rfl,hO⟩|⟨hx,rfl,hO⟩⟩
  ·obtain⟨IU,hxk⟩:=(aM ax hI.pJ).1 hx
   have Zq:=hI.ul IU
   have gG:XD k ms=x.2.l:=by unfold XD;rw[hx];rfl
   rw[gG]at df |-
   refine ab.f rfl ⟨_,hO.rd 0 rfl (by simp),(AT.rX x.2.b).call ⟨_,_,_,rfl,?_⟩⟩
   obtain⟨A,B,eAB,_,_⟩:=hI.pJ.at_ ax IU
   have e2:ms.map eo=A.map eo++eo x::B.map eo:=by conv=>lhs;rw[eAB]
                                                  simp
   have sd:=hO.drop
   rw[e2]at sd
   have jd:=Ow.pick (P:=[AM.cU mm (ms.map ku),Pt b3 171 [.fn fy ya yb],Pt n 294 [pP me 0,pP mm 0],AE.cU me (es.map pK)]) sd
   refine bk.own (AT.fN x.2.b x.2.l (by omega)) jd (λi=>Ow [Pt b3 171 [.fn fy ya yb],I i]) (λcd u=>cd=.ret/\Ow [S] u) (λi=>fJ.own _) (λcd=>fJ.and (fJ.own _)) (λμ' h'=>?_) ?_ ?_ ?_
   ·have h3:=Ow.vl (P:=[AM.cU mm (ms.map ku),Pt b3 171 [.fn fy ya yb],Pt n 294 [pP me 0,pP mm 0],AE.cU me (es.map pK)]) h'
    have h4:Ow (Pt b3 171 [.fn fy ya yb]::(AM.cU mm (ms.map ku)::Pt n 294 [pP me 0,pP mm 0]::AE.cU me (es.map pK)::(ms.map eo++[C]))) μ':=by
     rw[e2];exact Ow.swap h3
    exact h4.tail λν hν=>h0 ν (vH hν)
   ·rintro i hi u1 R hO bU kg
    have vX:i<x.2.l.length:=by simpa using hi
    have gV:=df i (by simpa using vX)
    rw[List.getElem_map]at gV |-
    refine⟨_,_,_,_,_,_,_,_,_,_,_,_,rfl,_,_,_,hO.rd 0 rfl (by simp),Ow.va hO.swap (λν hν=>gV ν hν) λv μ' Uu=>?_⟩
    rcases Uu.qB with⟨rfl,h⟩|⟨rfl,h⟩
    ·exact⟨true,rfl,ab.f rfl (bU _ h.swap)⟩
    ·exact⟨false,rfl,ab.t rfl (kg _ _ ⟨rfl,h.swap.drop⟩)⟩
   ·intro u1 hO
    rw[List.length_map]at hO
    exact .inl (by rw[List.length_map];exact hO.drop)
   ·rintro cd u1 ⟨rfl,h⟩
    exact .inr h
  ·have gG:XD k ms=[]:=by unfold XD;rw[hx];rfl
   rw[gG]
   refine ab.t rfl (.inl (h0 u (vH (Ow.swap hO).drop)))
theorem Jx{f:PV}{items:Lq}{A A':aY}(L:List aY)(h:iT prog f items A A'):iT prog f items (Ow (A::L)) (Ow (A'::L)):=by
 refine⟨h.1,λfy ya yb I S C μ hy hO h0 df=>?_⟩
 have h1:Ow (A::(L++[C])) μ:=hO.nest
 exact h.2 fy ya yb I S (Ow (L++[C])) μ hy (h1.tail λ_ h=>Ow.one h) (λμ' h'=>h0 μ' (Ow.pack (L1:=A'::L) (h'.tail λ_ h=>h.Xj))) df
theorem Oc{f:PV}{items:Lq}{A A' B B':aY}(h:iT prog f items A A')(h1:∀μ,B μ->A μ)(h2:∀μ,A' μ->B' μ):iT prog f items B B':=
 ⟨h.1,λfy ya yb I S C μ hy hO h0 df=>h.2 fy ya yb I S C μ hy (hO.imp h1) (λμ' h'=>h0 μ' (h'.imp h2)) df⟩
structure NC where
 T:Int
 M:Int
 root:Nat
 al:Nat
 el:Nat
 id:Nat
 pr:Nat
@[reducible] def NC.pv(x:NC):List PV:=[pI x.T,pI x.M,pP x.root 0,pP x.al 0,pP x.el 0,pP x.id 0,pP x.pr 0]
abbrev pt:=List (Sym×Nat×List af)
def rF(x:Sym×Nat×List af):RI.El:=(x.1,some ⟨x.2.1,0,none⟩)
def fC(x:Sym×Nat×List af):aY:=RT.At x.2.1 x.2.2
def lG(x:Sym×Nat×List af):Sym:=x.1
def iM(m:Nat)(ids:pt):aY:=Ow (RI.cU m (ids.map rF)::ids.map fC)
structure kJ(es:List af)(ids:pt):Prop where
 up:ca gN lG ids
 has:∀x∈ids,x.2.2=es.filter λe=>gf e.id x.1
 one:∀e∈es,∃x∈ids,x.1=e.id
 some_:∀x∈ids,x.2.2≠[]
 le:ids.length<=es.length
theorem Na(k:Sym)(ids:pt):aL RI.ck RI.key (RI.key (k,RI.z)) (ids.map rF)=(aL gN lG k ids).map rF:=ql
theorem kJ.u{es:List af}{ids:pt}(h:kJ es ids):ca RI.ck RI.key (ids.map rF):=ca.map h.up
def Ro(s:Sym)(es:List af):List af:=es.filter λe=>gf e.id s
theorem kJ.get{es:List af}{ids:pt}(h:kJ es ids)(s:Sym):((aL gN lG s ids).map λx=>x.2.2).getD []=Ro s es:=by
 cases hg:aL gN lG s ids with
 |some x=>
  obtain⟨hx,hk⟩:=(aM bX h.up).1 hg
  have bW:x.1=s:=hk
  show x.2.2=_
  rw[h.has x hx,bW];rfl
 |none=>
  have hn:=(bx bX).1 hg
  show[]=_
  unfold Ro
  symm
  rw[List.filter_eq_nil_iff]
  intro e he hs
  obtain⟨x,hx,hk⟩:=h.one e he
  exact hn x hx (hk.trans (cF.1 hs))
def vm(n al:Nat)(k:Int)(o:Option Sym):PV:=
 match o with
 |none=>inF al k
 |some s=>.fn (.func 235) [] [.bn [pP n 0] 0,.bn s.pv 0]
theorem Yr{n:Nat}{x:NC}{μ:Mem}(hn:NG n x.pv μ)(c:ae)(fa fv fc fl:Fl)(l:List aK.Bind)(hl:l.length<=1000000)(k:Int):
  aa prog 168 [pP n 0,.agg [pI c.kind,pB c.goal,pS c.id,.list 6 fa (c.attr.map Test.pv),.list 6 fv (c.value.map Test.pv),pB c.acc,.list 7 fc (c.conds.map ae.pv)],.list 4 fl (l.map Bind.pv),pI k] μ λp μ'=>Bn μ μ'/\p=vm n x.al k (iw l c.id):=by
 refine aa.freeze (K:=λv μ'=>Bn μ μ'/\((iw l c.id=none/\v=inF x.al k)\/∃s b,iw l c.id=some s/\μ b=none/\v=.fn (.func 235) [] [.bn [pP n 0] 0,pP b 0]/\μ' b=some (.cells 60 s.pv))) (Am.c ?_) ?_
 ·refine(lq fl l hl c.id).call ?_
  cases hg:iw l c.id with
  |none=>
   refine⟨_,_,_,_,rfl,λb9 hb=>⟨_,_,Mem.aq _ _ _,by simp,?_⟩⟩
   rw[Mem.set_set]
   have XW:=Bn.new hb (some (.cells 60 (dN [pI 0,pS ⟨#[]⟩,pI 0] 0 [pI 0,pS ⟨#[]⟩,pI 0])))
   exact ab.t rfl ⟨_,rfl,_,(hn.afJ XW).rd (by simp),(cIn x.al k).call ⟨_,_,_,rfl,XW,.inl ⟨rfl,rfl⟩⟩⟩
  |some s=>
   refine⟨_,_,_,_,rfl,λb9 hb=>⟨_,_,Mem.aq _ _ _,by simp,?_⟩⟩
   rw[Mem.set_set]
   have XW:=Bn.new hb (some (.cells 60 (dN [pI 0,pS ⟨#[]⟩,pI 0] 0 [pI s.k,pS s.t,pI s.n])))
   exact ab.f rfl ⟨XW,.inr ⟨s,b9,rfl,hb,rfl,Mem.aq _ _ _⟩⟩
 ·rintro v μ' ⟨XW,⟨hg,rfl⟩|⟨s,b,hg,hb0,rfl,hb⟩⟩
  ·refine⟨_,μ',[],λZ u r hg' hr=>?_,λb o h=>⟨h,by simp⟩,XW,by rw[hg,vm]⟩
   exact hr.mono (jn (hg'.sub λx o hx=>by simp at hx))
  ·refine⟨_,λy=>if y=b then none else μ' y,[b],λZ u r hg' hr=>?_,λy o h=>?_,λy hy=>?_,by rw[hg,vm]⟩
   ·obtain⟨fv,cv,rfl,h1,h2⟩:=hr.ofFn
    obtain⟨v1,_,rfl,_,q1,h2⟩:=h2.inv
    obtain⟨v2,_,rfl,_,q2,h2⟩:=h2.inv
    obtain rfl:=h2.pj
    obtain rfl:=h1.pj
    have gs:aK.Good Z u (λy=>if y∈[b]then μ' y else none):=hg'.sub λy o hy=>by
     by_cases hm:y∈[b]
     ·simpa[hm]using hy
     ·simp[hm]at hy
    exact bf.GX (bf.nil _) (bf.cons rfl (q1.mono (jn gs)) (bf.cons rfl (Uy hg' hb rfl q2) (bf.nil _)))
   ·have h:(if y=b then none else μ' y)=some o:=h
    by_cases e:y=b
    ·rw[if_pos e]at h;cases h
    ·rw[if_neg e]at h;exact⟨h,by simpa using e⟩
   ·have aT:y≠b:=by rintro rfl;exact hy hb0
    show(if y=b then none else μ' y)=μ y
    rw[if_neg aT];exact XW y hy
theorem Ik{n:Nat}{x:NC}{μ:Mem}(hn:μ n=some (.cells 137 x.pv))(c:ae)(fa fv fc fl:Fl)(l:List aK.Bind)(hl:l.length<=1000000)(k:Int){K:Kq}(hK:K (vm n x.al k (iw l c.id)) M0):
  dz prog 168 [pP n 0,.agg [pI c.kind,pB c.goal,pS c.id,.list 6 fa (c.attr.map Test.pv),.list 6 fv (c.value.map Test.pv),pB c.acc,.list 7 fc (c.conds.map ae.pv)],.list 4 fl (l.map Bind.pv),pI k] μ K:=
 dz.ah0 (Yr (aaG hn) c fa fv fc fl l hl k) λp hp=>by rw[hp];exact hK
def Si(es:List af)(ms:dL)(k:Int)(o:Option Sym):List af:=
 match o with
 |none=>XD k ms
 |some s=>Ro s es
def an(n:Nat)(x:NC)(es:List af)(ms:dL)(ids:pt):aY:=Ow [Pt n 137 x.pv,bV x.al es ms,iM x.id ids]
theorem WT{n:Nat}{x:NC}{es:List af}{ids:pt}(hI:kJ es ids)(hle:es.length<1000000)(s:Sym):
  iT prog (.fn (.func 235) [] [.bn [pP n 0] 0,.bn s.pv 0]) ((Ro s es).map λe=>[.agg e.pv]) (Ow [Pt n 137 x.pv,iM x.id ids]) (Ow [Pt n 137 x.pv,iM x.id ids]):=by
 refine iT.mk λfy ya yb I S C μ hy hO h0 df=>?_
 show aa _ _ [.fn fy ya yb,.bn [pP n 0] 0,.bn s.pv 0] _ _
 have hlen:=hI.le
 have sd:Ow (RI.cU x.id (ids.map rF)::Pt n 137 x.pv::(ids.map fC++[C])) μ:=by
  have h1:Ow (Pt n 137 x.pv::iM x.id ids::[C]) μ:=hO.nest
  exact((h1.swap).nest (L1:=RI.cU x.id (ids.map rF)::ids.map fC)).tail λν hν=>(Ow.comm (L1:=ids.map fC) hν).tail λν' h'=>Ow.comm (L1:=[C]) h'
 have back:∀ν,Ow (RI.cU x.id (ids.map rF)::Pt n 137 x.pv::(ids.map fC++[C])) ν->Ow [I 0] ν:=λν hν=>h0 ν (by
  have h1:Ow ((RI.cU x.id (ids.map rF)::ids.map fC)++(Pt n 137 x.pv::[C])) ν:=hν.tail λν1 h1=>by
   have h2:Ow (Pt n 137 x.pv::(([C]:List aY)++ids.map fC)) ν1:=h1.tail λν2 h2=>Ow.comm (L1:=ids.map fC) h2
   exact Ow.comm (L1:=Pt n 137 x.pv::[C]) h2
  exact Ow.pack (L1:=[Pt n 137 x.pv,iM x.id ids]) (Ow.swap (Ow.pack (L1:=RI.cU x.id (ids.map rF)::ids.map fC) h1)))
 refine wK.c λb3 DB=>?_
 have O1:=sd.new 171 [.fn fy ya yb] DB
 refine⟨_,rfl,_,O1.rd 2 rfl (by simp),_,_,_,rfl,?_⟩
 refine RI.gO (Ow.at 1 rfl O1) hI.u (by simp;omega) s (λy μ' hy h'=>?_) (λμ' hy h'=>?_)
 ·rw[Na]at hy
  obtain⟨z,hz,rfl⟩:=Option.map_eq_some_iff.1 hy
  have hb:=hI.get s
  rw[hz]at hb
  have hb:z.2.2=Ro s es:=hb
  obtain⟨RE,HH⟩:=(aM bX hI.up).1 hz
  obtain⟨A,B,eAB,_,_⟩:=hI.up.at_ bX RE
  have e2:ids.map fC=A.map fC++fC z::B.map fC:=by conv=>lhs;rw[eAB]
                                                  simp
  refine⟨_,_,rfl,ab.f rfl ((RT.rX z.2.1).call ⟨_,_,_,rfl,?_⟩)⟩
  have h2:Ow (RI.cU x.id (ids.map rF)::Pt b3 171 [.fn fy ya yb]::Pt n 137 x.pv::(ids.map fC++[C])) μ':=h'
  rw[e2]at h2
  have jd:=Ow.pick (P:=[RI.cU x.id (ids.map rF),Pt b3 171 [.fn fy ya yb],Pt n 137 x.pv]) h2
  have Gn:z.2.2.length<=es.length:=by rw[hb];exact List.length_filter_le _ _
  rw[<- hb]at df |-
  refine bk.own (RT.fN z.2.1 z.2.2 (by omega)) jd (λi=>Ow [Pt b3 171 [.fn fy ya yb],I i]) (λcd u=>cd=.ret/\Ow [S] u) (λi=>fJ.own _) (λcd=>fJ.and (fJ.own _)) (λμ' h'=>?_) ?_ ?_ ?_
  ·have h3:=Ow.vl (P:=[RI.cU x.id (ids.map rF),Pt b3 171 [.fn fy ya yb],Pt n 137 x.pv]) h'
   have h4:Ow (Pt b3 171 [.fn fy ya yb]::(RI.cU x.id (ids.map rF)::Pt n 137 x.pv::(ids.map fC++[C]))) μ':=by
    rw[e2];exact Ow.swap h3
   exact h4.tail back
  ·rintro i hi u1 R hO bU kg
   have vX:i<z.2.2.length:=by simpa using hi
   have gV:=df i (by simpa using vX)
   rw[List.getElem_map]at gV |-
   refine⟨_,_,_,_,_,_,_,_,_,_,_,_,rfl,_,_,_,hO.rd 0 rfl (by simp),Ow.va hO.swap (λν hν=>gV ν hν) λv μ' Uu=>?_⟩
   rcases Uu.qB with⟨rfl,h⟩|⟨rfl,h⟩
   ·exact⟨true,rfl,ab.f rfl (bU _ h.swap)⟩
   ·exact⟨false,rfl,ab.t rfl (kg _ _ ⟨rfl,h.swap.drop⟩)⟩
  ·intro u1 hO
   rw[List.length_map]at hO
   exact .inl (by rw[List.length_map];exact hO.drop)
  ·rintro cd u1 ⟨rfl,h⟩
   exact .inr h
 ·rw[Na]at hy
  have hz:aL gN lG s ids=none:=map_none hy
  have hb:=hI.get s
  rw[hz]at hb
  have hb:[]=Ro s es:=hb
  rw[<- hb]at df |-
  have h2:Ow (RI.cU x.id (ids.map rF)::Pt b3 171 [.fn fy ya yb]::Pt n 137 x.pv::(ids.map fC++[C])) μ':=h'
  exact⟨_,_,rfl,ab.t rfl (.inl (back _ h2.swap.drop))⟩
theorem SB{n:Nat}{x:NC}{es:List af}{ms:dL}{ids:pt}(hA:eC es ms)(hI:kJ es ids)(k:Int)(o:Option Sym):
  iT prog (vm n x.al k o) ((Si es ms k o).map λe=>[.agg e.pv]) (an n x es ms ids) (an n x es ms ids):=by
 cases o with
 |none=>
  refine Oc (Jx [Pt n 137 x.pv,iM x.id ids] (ad4 x.al k hA)) (λμ h=>Ow.swap h) (λμ h=>Ow.swap h)
 |some s=>
  refine Oc (Jx [bV x.al es ms] (WT (x:=x) (n:=n) hI hA.le s)) (λμ h=>?_) (λμ h=>?_)
  ·have h1:Ow [Pt n 137 x.pv,bV x.al es ms,iM x.id ids] μ:=h
   exact Ow.pack (L1:=[Pt n 137 x.pv,iM x.id ids]) (h1.tail λ_ h=>h.swap)
  ·have h1:Ow [Pt n 137 x.pv,iM x.id ids,bV x.al es ms] μ:=Ow.nest (L1:=[Pt n 137 x.pv,iM x.id ids]) h
   exact h1.tail λ_ h=>h.swap
structure cf where
 tags:List Int
 binds:List Bind
@[reducible] def cf.pv(t:cf):List PV:=[.list 1 .sh (t.tags.map λx=>[pI x]),.list 4 .sh (t.binds.map Bind.pv)]
def bG:List Int->List Int->Int
 |[],b=> -(b.length:Int)
 |a::l,[]=>(l.length:Int)+1
 |a::l,b::r=>if a=b then bG l r else a-b
theorem vr:∀a b:List Int,bG a b=0↔a=b
 |[],[]=>by simp[bG]
 |[],b::r=>by simp only[bG,List.length_cons];constructor<;>intro h<;>first|omega|cases h
 |a::l,[]=>by simp only[bG];constructor<;>intro h<;>first|omega|cases h
 |a::l,b::r=>by
  simp only[bG]
  split
  ·rename_i e;rw[vr l r];simp[e]
  ·rename_i e;constructor<;>intro h<;>first|omega|(cases h;exact absurd rfl e)
theorem vt:∀a b:List Int,bG a b<0↔0<bG b a
 |[],[]=>by simp[bG]
 |[],b::r=>by simp only[bG,List.length_cons];constructor<;>intro h<;>omega
 |a::l,[]=>by simp only[bG,List.length_cons];constructor<;>intro h<;>omega
 |a::l,b::r=>by
  simp only[bG]
  by_cases e:a=b
  ·subst e;simp only[if_true];exact vt l r
  ·rw[if_neg e,if_neg (Ne.symm e)];omega
theorem ss:∀a b d:List Int,bG a b<0->bG b d<0->bG a d<0
 |[],[],d,h,_=>by simp[bG]at h
 |[],b::r,[],_,k=>by simp only[bG]at k;omega
 |[],b::r,d::s,_,_=>by simp only[bG,List.length_cons];omega
 |a::l,[],d,h,_=>by simp only[bG]at h;omega
 |a::l,b::r,[],_,k=>by simp only[bG]at k;omega
 |a::l,b::r,d::s,h,k=>by
  simp only[bG]at h k |-
  by_cases e1:a=b
  ·subst e1
   simp only[if_true]at h
   by_cases e2:a=d
   ·subst e2
    simp only[if_true]at k |-
    exact ss l r s h k
   ·rw[if_neg e2]at k |-;exact k
  ·rw[if_neg e1]at h
   by_cases e2:b=d
   ·subst e2;rw[if_neg e1];exact h
   ·rw[if_neg e2]at k;rw[if_neg (by omega)];omega
theorem CH:∀(k:Nat) (a b:List Int),k<=a.length->k<=b.length->a.take k=b.take k->bG a b=bG (a.drop k) (b.drop k)
 |0,_,_,_,_,_=>rfl
 |k+1,[],_,h,_,_=>by simp at h
 |k+1,_::_,[],_,h,_=>by simp at h
 |k+1,a::l,b::r,h1,h2,h=>by
  simp only[List.take_succ_cons,List.cons.injEq]at h
  simp only[bG,List.drop_succ_cons]
  rw[if_pos h.1]
  exact CH k l r (by simpa using h1) (by simpa using h2) h.2
structure Ai(l:List Int):Prop where
 le:l.length<=1000000
 pos:∀x∈l,0<=x/\x<9223372036854775808
theorem Ha{l:List Int}{k:Nat}(hk:k<l.length):(l.map λx=>[pI x])[Int.toNat (k:Int)]?=some [pI l[k]]:=by
 rw[Int.toNat_natCast,List.getElem?_map,List.getElem?_eq_getElem hk];rfl
theorem aag(f g:Fl){a b:List Int}(ha:Ai a)(hb:Ai b):Pure prog 111 [.list 1 f (a.map λx=>[pI x]),.list 1 g (b.map λx=>[pI x])] (pI (bG a b)):=by
 refine ao.of (Lv.c ?_)
 have hla:=ha.le
 have hlb:=hb.le
 refine⟨λ_ u=>u=M0/\a.take (min a.length b.length)=b.take (min a.length b.length),?_,?_⟩
 ·refine ak.up (min a.length b.length) (by omega) (λk u=>u=M0/\a.take k=b.take k) ⟨rfl,rfl⟩ ?_
  rintro k u next hk ⟨rfl,hI⟩ ar
  simp only[List.length_map]
  by_cases h1:k<a.length
  ·by_cases h2:k<b.length
   ·refine ab.t (by simpa using h1) (ab.t (by simpa using h2) ⟨by omega,_,Ha h1,_,rfl,by omega,_,Ha h2,_,rfl,?_⟩)
    have hda:bG a b=bG (a.drop k) (b.drop k):=CH k a b (by omega) (by omega) hI
    rw[List.drop_eq_getElem_cons h1,List.drop_eq_getElem_cons h2]at hda
    simp only[bG]at hda
    refine ab.mk (λe=>?_) (λe=>?_)
    ·refine⟨by omega,_,Ha h1,_,rfl,by omega,_,Ha h2,_,rfl,?_⟩
     have aT:a[k]≠b[k]:=by simpa using e
     rw[if_neg aT]at hda
     have p1:=ha.pos _ (List.getElem_mem h1)
     have p2:=hb.pos _ (List.getElem_mem h2)
     rw[hda,az (by omega) (by omega)];rfl
    ·have he:a[k]=b[k]:=by simpa using e
     refine ar (by omega) _ ⟨rfl,?_⟩
     rw[List.take_add_one,List.take_add_one,hI,List.getElem?_eq_getElem h1,List.getElem?_eq_getElem h2,he]
   ·have:k=min a.length b.length:=by omega
    exact ab.t (by simpa using h1) (ab.f (by simp;omega) ⟨trivial,by rw[<- this];exact hI⟩)
  ·have:k=min a.length b.length:=by omega
   exact ab.f (by simp;omega) ⟨trivial,by rw[<- this];exact hI⟩
 ·rintro _ u ⟨rfl,hI⟩
  simp only[List.length_map]
  have:=CH (min a.length b.length) a b (by omega) (by omega) hI
  rw[this,az (by omega) (by omega)]
  by_cases h:a.length<=b.length
  ·rw[Nat.min_eq_left h,List.drop_length]
   simp only[bG,List.length_drop]
   exact congrArg pI (by omega)
  ·rw[Nat.min_eq_right (by omega),List.drop_length]
   cases hd:a.drop b.length with
   |nil=>have:=congrArg List.length hd;simp at this;omega
   |cons x l=>
    have:=congrArg List.length hd
    simp only[List.length_drop,List.length_cons]at this
    simp only[bG]
    exact congrArg pI (by omega)
namespace RK
abbrev El:={t:cf // Ai t.tags}
@[reducible] def pv(x:El):List PV:=x.1.pv
@[reducible] def arg(x:El):PV:=.agg x.1.pv
def key(x:El):List Int:=x.1.tags
abbrev ck:List Int->List Int->Int:=bG
theorem hc:oF ck:=⟨vr,vt,ss⟩
theorem wC(a b:El):Pure prog 333 [arg a,arg b] (pI (ck (key a) (key b))):=by
 refine ao.of (tt.c ?_)
 exact(aag _ _ a.2 b.2).call ⟨_,rfl,rfl⟩
@[reducible] noncomputable def D:SD:=⟨prog,318,193,2,48,333,λQ=>∃xaf xa xbf xb,Q [.list 1 xaf xa,.list 4 xbf xb],.agg,[.list 1 .nil [],.list 4 .nil []]⟩
abbrev At(b:Nat)(l:List El):aY:=cT 318 193 2 b (l.map pv)
theorem ot:Ps D pv arg key ck:=⟨λx Q h=>⟨_,_,_,_,h⟩,λ_=>rfl,λ_=>rfl,λ_=>rfl,λ_=>rfl,hc,wC,λv=>by kernel_rfl,rfl,by decide,by decide⟩
theorem dP{x:El}{a0:Option Addr}{u0:Mem}{K:Kq}(h:D.find a0 u0 K (arg x)):aa prog 257 [pA a0,arg x] u0 K:=VC [3] [(2,⟨[(6,.one (.raw (.int .i64))),(7,.one (.raw (.int .i64)))],[]⟩)] [] [] [] [] [] func257 h
theorem iZ{a0:Option Addr}{u0:Mem}{K:Kq}(h:D.own a0 u0 K):aa prog 258 [pA a0] u0 K:=VC [] [] [] [] [] [] [] func258 h
theorem nH{x:El}{a0:Option Addr}{u0:Mem}{K:Kq}(h:D.put a0 u0 K (pv x) (arg x) 257 258):aa prog 198 [pA a0,arg x] u0 K:=VC [3] [(9,⟨[(7,.one (.raw (.int .i64)))],[]⟩)] [] [] [] [] [23,32,43,48,57] func198 h
def gW:=ot.gW dP iZ nH
theorem nI{fl:Fl}{l:Lq}{u0:Mem}{K:Kq}(h:D.new u0 K 198 l):aa prog 134 [.list 2 fl l] u0 K:=VC [5] [(3,⟨[(10,.one (.raw (.int .i64)))],[]⟩)] [] [] [] [] [] func134 h
def iy:=ot.iy gW nI
theorem nJ{a0:Option Addr}{a1:Int}{a2:Fn}{EJ EI:List PV}{u0:Mem}{K:Kq}(h:D.from_ a0 u0 K a1 a2 EJ EI):aa prog 200 [pA a0,pI a1,.fn a2 EJ EI] u0 K:=VC [] [(3,⟨[(7,.one (.raw (.int .i64)))],[]⟩)] [] [] [] [] [] func200 h
theorem nL{a0:Fn}{EM EL c0:List PV}{u0:Mem}{K:Kq}(h:D.By u0 K 200 a0 EM EL c0):aa prog 199 [.fn a0 EM EL,.bn c0 0] u0 K:=VC [] [] [] [] [] [] [] func199 h
@[reducible] def tn(b:Nat):PV:=.fn (.func 199) [] [.bn [pP b 0] 0]
theorem rX(b:Nat):Pure prog 135 [pP b 0] (tn b):=ao.of (oq.c rfl)
theorem fN(b:Nat)(l:List El)(hl:l.length<=4000000000000000000):iT prog (tn b) (l.map λx=>[arg x]) (At b l) (At b l):=ot.fN nL nJ b l hl
end RK
theorem KE{α β:Type}{f g:α->Option β}:∀{l:List α},(∀x∈l,f x=g x)->l.filterMap f=l.filterMap g
 |[],_=>rfl
 |x::l,h=>by rw[List.filterMap_cons,List.filterMap_cons,h x (by simp),KE λy hy=>h y (by simp[hy])]
theorem mG{c:ae}{l:List aK.Bind}{es:List af}{p:af->Bool}(h:∀e,(cO c e l).isSome->p e=true):aN c l (es.filter p)=aN c l es:=by
 unfold aN
 rw[List.filterMap_filter]
 refine KE λe _=>?_
 cases hp:p e with
 |true=>simp
 |false=>
  cases hc:cO c e l with
  |none=>simp
  |some r=>have:=h e (by rw[hc];rfl);rw[hp]at this;cases this
theorem Qm{t:Test}{s:Sym}{l r:List aK.Bind}(hv:aJ t.var ⟨#[]⟩=true)(h:met t s l=some r)(l':List aK.Bind):met t s l'=some l':=by
 have hv':=bI.1 hv
 unfold met at h |-
 by_cases h8:t.rel=8
 ·rw[if_pos h8]at h |-
  split at h
  ·rename_i ha;rw[if_pos ha]
  ·cases h
 ·rw[if_neg h8]at h |-
  by_cases h1:t.rel<1\/t.rel>7
  ·rw[if_pos h1]at h;cases h
  ·rw[if_neg h1,if_pos hv']at h |-
   split at h
   ·rename_i ha;rw[if_pos ha]
   ·cases h
theorem wG:∀(ts:List Test) (s:Sym) (l r:List aK.Bind),ib ts s l=some r->∀l',ib (jr ts) s l'=some l'
 |[],_,_,_,_,_=>rfl
 |t::ts,s,l,r,h,l'=>by
  simp only[ib,Option.bind_eq_some_iff]at h
  obtain⟨l1,h1,h2⟩:=h
  have ih:=wG ts s l1 r h2 l'
  unfold jr at ih |-
  rw[List.filter_cons]
  split
  ·rename_i hv
   simp only[ib]
   rw[Qm hv h1 l']
   exact ih
  ·exact ih
theorem zP{c:ae}{e:af}{l:List aK.Bind}(h:(cO c e l).isSome):bw (bO c) e=true:=by
 obtain⟨r,h⟩:=Option.isSome_iff_exists.1 h
 unfold cO at h
 split at h
 ·rename_i hc
  simp only[Option.bind_eq_some_iff]at h
  obtain⟨l1,_,l2,h2,h3⟩:=h
  unfold bw
  unfold cO
  rw[if_pos (show((Zo (bO c)).kind=1\/(Zo (bO c)).kind=2)/\((Zo (bO c)).goal=true->e.goal=true)/\(Zo (bO c)).acc=e.acc from⟨.inl rfl,hc.2.1,hc.2.2⟩)]
  have hm:met (lj (Zo (bO c)).id) e.id []=some [⟨⟨#[120]⟩,e.id⟩]:=rfl
  rw[hm]
  show((ib (jr c.attr) e.attr _).bind λl2=>ib (jr c.value) e.value l2).isSome=true
  rw[wG _ _ _ _ h2]
  show(ib (jr c.value) e.value _).isSome=true
  rw[wG _ _ _ _ h3];rfl
 ·cases h
theorem Yn{c:ae}{e:af}{l:List aK.Bind}{s:Sym}(Dz:c.id≠⟨#[]⟩)(hg:iw l c.id=some s)(h:(cO c e l).isSome):gf e.id s=true:=by
 obtain⟨r,h⟩:=Option.isSome_iff_exists.1 h
 unfold cO at h
 split at h
 ·simp only[Option.bind_eq_some_iff]at h
  obtain⟨l1,h1,_⟩:=h
  unfold met at h1
  rw[if_neg (show ¬(lj c.id).rel=8 from by show ¬(1:Int)=8;omega),if_neg (show ¬((lj c.id).rel<1\/(lj c.id).rel>7)from by show ¬((1:Int)<1\/(1:Int)>7);omega),if_neg (show ¬(lj c.id).var=⟨#[]⟩from Dz)]at h1
  rw[show iw l (lj c.id).var=some s from hg]at h1
  simp only at h1
  split at h1
  ·rename_i hh;exact hh
  ·cases h1
 ·cases h
def eO(ms:dL)(k:Int)(c:ae):Prop:=∃x,aL aA cA k ms=some x/\x.2.c=bO c
theorem Mf{es:List af}{ms:dL}(hA:eC es ms){c:ae}(Dz:c.id≠⟨#[]⟩){k:Int}(hm:eO ms k c)(l:List aK.Bind):aN c l (Si es ms k (iw l c.id))=aN c l es:=by
 cases hg:iw l c.id with
 |none=>
  obtain⟨x,hx,hc⟩:=hm
  have gG:XD k ms=x.2.l:=by unfold XD;rw[hx];rfl
  show aN c l (XD k ms)=_
  rw[gG,hA.has x ((aM ax hA.pJ).1 hx).1,hc]
  exact mG λe he=>zP he
 |some s=>exact mG λe he=>Yn Dz hg he
mutual
def jQ(es:List af):ae->List aK.Bind->List (List aK.Bind)
 | .mk k g i a v ac cs,b=>if k=1 then(aN (.mk k g i a v ac cs) b es).map (·.2)else if k=2 then(if(aN (.mk k g i a v ac cs) b es).isEmpty then[b]else[])else(if(kD es cs [b]).isEmpty then[b]else[])
def kD(es:List af):List ae->List (List aK.Bind)->List (List aK.Bind)
 |[],rows=>rows
 |c::cs,rows=>kD es cs (rows.flatMap λb=>jQ es c b)
end
theorem iQ(es:List af)(c:ae)(b:List aK.Bind):jQ es c b=if c.kind=1 then(aN c b es).map (·.2)else if c.kind=2 then(if(aN c b es).isEmpty then[b]else[])else(if(kD es c.conds [b]).isEmpty then[b]else[]):=by
 cases c;simp only[jQ];rfl
mutual
def cC(es:List af):ae->List aK.Bind->Nat->Nat
 | .mk k g i a v ac cs,b,0=>(jQ es (.mk k g i a v ac cs) b).length
 | .mk k g i a v ac cs,b,j+1=>if k=1\/k=2 then 0 else cL es cs [b] j
def cL(es:List af):List ae->List (List aK.Bind)->Nat->Nat
 |[],_,_=>0
 |c::cs,rows,j=>if j<aR c then(rows.map λb=>cC es c b j).sum else cL es cs (rows.flatMap λb=>jQ es c b) (j-aR c)
end
theorem pb(es:List af)(c:ae)(b:List aK.Bind):cC es c b 0=(jQ es c b).length:=by cases c;rfl
theorem tV(es:List af)(c:ae)(b:List aK.Bind)(j:Nat):cC es c b (j+1)=if c.kind=1\/c.kind=2 then 0 else cL es c.conds [b] j:=by cases c;rfl
theorem Iq(es:List af):∀(cs:List ae) (rows:List (List aK.Bind)) (j:Nat),aj cs<=j->cL es cs rows j=0
 |[],_,_,_=>rfl
 |c::cs,rows,j,h=>by
  simp only[aj]at h
  simp only[cL]
  rw[if_neg (by omega)]
  exact Iq es cs _ _ (by omega)
def EO:cf:=⟨[],[]⟩
def stepT(es:List af)(c:ae)(ts:List cf):List cf:=
 if c.kind=1 then ts.flatMap λt=>(aN c t.binds es).map λx=>⟨t.tags++[x.1.tag],x.2⟩else ts.filter λt=> !(jQ es c t.binds).isEmpty
def au(es:List af)(p:List ae):List cf:=p.foldl (λts c=>stepT es c ts) [EO]
def dZ(es:List af)(c:ae)(ts:List cf)(j:Nat):Nat:=(ts.map λt=>cC es c t.binds j).sum
theorem cV(es:List af)(p:List ae)(c:ae):au es (p++[c])=stepT es c (au es p):=by
 unfold au;rw[List.foldl_append];rfl
@[reducible] def gz(k:Int):List PV:=[pI k]
structure WC where
 n:Nat
 fm:Fl
 aG:List Int
 a:Option Addr
 N:Nat
 c:Nat
@[reducible] def WC.pv(w:WC):List PV:=[pP w.n 0,.list 1 w.fm (w.aG.map gz),.raw (.slice w.a w.N w.c)]
def fV(w:WC)(cv:Nat->Nat):aY:=iW 3 1 (.raw (.slice w.a w.N w.c)) ((List.range w.N).map λi=>[pI ((cv i:Nat):Int)])
def oG(cv:Nat->Nat)(k v:Nat):Nat->Nat:=λi=>if i=k then v else cv i
theorem zR(N:Nat)(cv:Nat->Nat):∀r∈(List.range N).map λi=>[pI ((cv i:Nat):Int)],r.length=1:=λr hr=>by
 obtain⟨i,_,rfl⟩:=List.mem_map.1 hr;rfl
theorem UQ{N k v:Nat}{cv:Nat->Nat}(hk:k<N):((List.range N).map λi=>[pI ((cv i:Nat):Int)]).set k [pI ((v:Nat):Int)]=(List.range N).map λi=>[pI ((oG cv k v i:Nat):Int)]:=by
 refine List.ext_getElem (by simp) λi h1 h2=>?_
 simp only[List.length_map,List.length_range]at h2
 rw[List.getElem_set]
 simp only[List.getElem_map,List.getElem_range,oG]
 by_cases e:k=i
 ·rw[if_pos e,if_pos e.symm]
 ·rw[if_neg e,if_neg (Ne.symm e)]
theorem an.qz{n:Nat}{x:NC}{es:List af}{ms:dL}{ids:pt}{L:List aY}{μ:Mem}(hO:Ow L μ)(hm:an n x es ms ids∈L):μ n=some (.cells 137 x.pv):=by
 obtain⟨ν,h1,h2⟩:=hO.mem _ hm
 have h3:Ow [Pt n 137 x.pv,bV x.al es ms,iM x.id ids] ν:=h1
 exact h2 n _ (h3.get 0 rfl)
theorem yC{w:Nat}{W:WC}{x:NC}{es:List af}{ms:dL}{ids:pt}{cv:Nat->Nat}{L:List aY}{μ:Mem}(hO:Ow (Pt w 266 W.pv::fV W cv::an W.n x es ms ids::L) μ)(k:Nat)(hk:k<W.N)(hb:cv k<=1000000000){K:Kq}
  (hK:∀μ',Ow (Pt w 266 W.pv::fV W (oG cv k (cv k+1))::an W.n x es ms ids::L) μ'->K (pB (decide (((cv k+1:Nat):Int)<=x.T))) μ'):aa prog 169 [pP w 0,pI ((k:Nat):Int),pI 1] μ K:=by
 refine ux.c ⟨_,_,_,hO.rd 0 rfl (by simp),_,_,_,hO.rd 0 rfl (by simp),?_⟩
 have ED:k<((List.range W.N).map λi=>[pI ((cv i:Nat):Int)]).length:=by simpa using hk
 obtain⟨b,ha,fB,gV⟩:=iW.at_ 1 hO rfl (zR W.N cv) (j:=k) ED
 rw[ha]
 have hg:((List.range W.N).map λi=>[pI ((cv i:Nat):Int)])[k]=[pI ((cv k:Nat):Int)]:=by simp
 rw[hg]at fB gV
 refine⟨by omega,by omega,_,(fB 0 1 (by omega)),?_⟩
 refine⟨by omega,by omega,?_⟩
 refine gV 0 _ _ (by simp) λu h1=>?_
 rw[show dN [pI ((cv k:Nat):Int)] 0 [pI (IntKind.wrap .i64 (((cv k:Nat):Int)+1))]=[pI ((cv k+1:Nat):Int)]from by
  rw[az (by omega) (by omega)];rfl,UQ hk]at h1
 have h1:Ow (Pt w 266 W.pv::fV W (oG cv k (cv k+1))::an W.n x es ms ids::L) u:=h1
 have ai2:k<((List.range W.N).map λi=>[pI ((oG cv k (cv k+1) i:Nat):Int)]).length:=by simpa using hk
 obtain⟨b2,ha2,aeU,_⟩:=iW.at_ 1 h1 rfl (zR W.N _) (j:=k) ai2
 have ZK:((List.range W.N).map λi=>[pI ((oG cv k (cv k+1) i:Nat):Int)])[k]=[pI ((cv k+1:Nat):Int)]:=by simp[oG]
 rw[ZK]at aeU
 refine⟨_,_,_,h1.rd 0 rfl (by simp),?_⟩
 rw[ha2]
 refine⟨by omega,by omega,_,aeU 0 1 (by omega),_,h1.rd 0 rfl (by simp),?_⟩
 refine⟨_,?_,hK u h1⟩
 exact aE (an.qz (es:=es) (ms:=ms) (ids:=ids) h1 (by simp)) (by simp)
theorem zd(n al:Nat)(k:Int)(o:Option Sym):∃fe fa fb,vm n al k o=.fn fe fa fb:=by
 cases o with
 |none=>exact⟨_,_,_,rfl⟩
 |some s=>exact⟨_,_,_,rfl⟩
structure Ez(c:ae):Prop where
 qf:cr c
 id:c.id≠⟨#[]⟩
theorem zo{n:Nat}{x:NC}{es:List af}{ms:dL}{ids:pt}(hA:eC es ms)(hI:kJ es ids){c:ae}(hc:Ez c){k:Int}(hm:eO ms k c){l:List aK.Bind}(hl:l.length<=900000){fe:Fn}{fa fb:List PV}(hf:vm n x.al k (iw l c.id)=.fn fe fa fb):
  iT prog (Sx c l (.fn fe fa fb)) ((aN c l es).map Sv) (an n x es ms ids) (an n x es ms ids):=by
 obtain⟨_,l1,l2,l3,l4,_⟩:=(bu c).1 hc.qf
 have hs:=SB (n:=n) (x:=x) hA hI k (iw l c.id)
 rw[hf]at hs
 have:=SC (l:=l) hs (by omega) (cI l3) (cI l4)
 rw[Mf hA hc.id hm]at this
 exact this
theorem vK{l:List Int}{k:Nat}(hk:k<l.length):(l.map gz)[Int.toNat (k:Int)]?=some [pI l[k]]:=by
 rw[Int.toNat_natCast,List.getElem?_map,List.getElem?_eq_getElem hk];rfl
theorem acd{w:Nat}{W:WC}{x:NC}{es:List af}{ms:dL}{ids:pt}(hA:eC es ms)(hI:kJ es ids){L:List aY}{μ:Mem}(hO:Ow (Pt w 266 W.pv::an W.n x es ms ids::L) μ){c:ae}(hc:Ez c)(fa fv fc fl:Fl){l:List aK.Bind}(hl:l.length<=900000){k:Nat}(hk:k<W.aG.length)(hm:eO ms W.aG[k] c){K:Kq}
  (hK:∀μ',Ow (Pt w 266 W.pv::an W.n x es ms ids::L) μ'->K (pB (!(aN c l es).isEmpty)) μ'):
  aa prog 236 [pP w 0,.agg [pI c.kind,pB c.goal,pS c.id,.list 6 fa (c.attr.map Test.pv),.list 6 fv (c.value.map Test.pv),pB c.acc,.list 7 fc (c.conds.map ae.pv)],.list 4 fl (l.map Bind.pv),pI ((k:Nat):Int)] μ K:=by
 refine Al.c λb8 uj=>?_
 have O1:=hO.new 4 [pB false] uj
 refine⟨_,O1.rd 1 rfl (by simp),_,_,O1.rd 1 rfl (by simp),by omega,_,vK hk,_,rfl,?_⟩
 refine Ik (an.qz (x:=x) (es:=es) (ms:=ms) (ids:=ids) O1 (by simp)) c _ _ _ _ l (by omega) W.aG[k] ?_
 obtain⟨fe,ga,gb,hf⟩:=zd W.n x.al W.aG[k] (iw l c.id)
 rw[hf]
 refine⟨_,_,_,rfl,?_⟩
 rw[Mem.oM]
 refine(Vb fe ga gb c _ _ _ _ l (by omega)).call ⟨_,_,_,rfl,?_⟩
 refine bk.own (zo hA hI hc hm hl hf) (Ow.at 2 rfl O1) (λi u=>i=0/\Ow (an W.n x es ms ids::Pt b8 4 [pB false]::Pt w 266 W.pv::L) u) (λcd u=>cd=.ret/\(aN c l es).isEmpty=false/\Ow (an W.n x es ms ids::Pt b8 4 [pB true]::Pt w 266 W.pv::L) u) (λi=>fJ.and (fJ.own _)) (λcd=>fJ.and (fJ.and (fJ.own _))) (λμ' h'=>⟨rfl,h'⟩) ?_ ?_ ?_
 ·rintro i hi u R ⟨rfl,h⟩ bU kg
  rw[List.getElem_map]
  refine⟨_,_,_,_,_,_,_,_,_,_,_,_,_,_,rfl,?_⟩
  refine h.st 1 rfl (by simp) λu4 h4=>kg _ _ ⟨rfl,?_,h4⟩
  have vX:0<(aN c l es).length:=by simpa using hi
  cases hx:aN c l es with
  |nil=>rw[hx]at vX;simp at vX
  |cons y ys=>rfl
 ·rintro u ⟨hi,h⟩
  have he:(aN c l es).isEmpty=true:=by
   rw[List.length_map]at hi
   rw[List.isEmpty_iff];exact List.eq_nil_of_length_eq_zero hi
  dsimp only[PK]
  refine h.st 1 rfl (by simp) λu4 h4=>?_
  refine⟨_,h4.rd 1 rfl (by simp[dN]),?_⟩
  have:=hK u4 (h4.tail λ_ h=>h.drop).swap
  rw[he]at this
  exact this
 ·rintro cd u ⟨rfl,he,h⟩
  dsimp only[PK]
  refine⟨_,h.rd 1 rfl (by simp),?_⟩
  have:=hK u (h.tail λ_ h=>h.drop).swap
  rw[he]at this
  exact this
def sh(a:Nat)(f:Nat->Nat)(i:Nat):Nat:=if a<=i then f (i-a)else 0
theorem Hd(f:Nat->Nat)(i:Nat):sh 0 f i=f i:=by unfold sh;simp
theorem Jv(a:Nat)(f:Nat->Nat):sh a f a=f 0:=by unfold sh;simp
theorem Ze(a b:Nat)(f:Nat->Nat)(i:Nat):sh a (λj=>sh b f j) i=sh (a+b) f i:=by
 unfold sh
 by_cases h1:a<=i
 ·rw[if_pos h1]
  dsimp only
  by_cases h2:b<=i-a
  ·rw[if_pos h2,if_pos (by omega)];congr 1;omega
  ·rw[if_neg h2,if_neg (by omega)]
 ·rw[if_neg h1,if_neg (by omega)]
theorem Mh(a:Nat)(f g:Nat->Nat)(i:Nat):sh a (λj=>f j+g j) i=sh a f i+sh a g i:=by unfold sh;split<;>rfl
theorem Zf{a:Nat}{f g:Nat->Nat}(h:∀j,f j<=g j)(i:Nat):sh a f i<=sh a g i:=by
 unfold sh;split
 ·exact h _
 ·exact Nat.le_refl _
theorem xF{a:Nat}{f g:Nat->Nat}(h:∀j,f j=g j)(i:Nat):sh a f i=sh a g i:=by rw[show f=g from funext h]
theorem Vy(es:List af)(c:ae)(b:List aK.Bind){j:Nat}(h:aR c<=j):cC es c b j=0:=by
 rw[bM]at h
 obtain⟨i,rfl⟩:∃i,j=i+1:=⟨j-1,by omega⟩
 rw[tV]
 split
 ·rfl
 ·exact Iq es _ _ _ (by omega)
def eh(es:List af)(c:ae)(rows:List (List aK.Bind))(j:Nat):Nat:=(rows.map λb=>cC es c b j).sum
theorem AB(es:List af)(c:ae)(a b:List (List aK.Bind))(j:Nat):eh es c (a++b) j=eh es c a j+eh es c b j:=by unfold eh;rw[List.map_append,List.sum_append]
theorem PE(es:List af)(c:ae){rows:List (List aK.Bind)}{k:Nat}(hk:k<rows.length)(j:Nat):eh es c (rows.take (k+1)) j=eh es c (rows.take k) j+cC es c rows[k] j:=by
 rw[List.take_add_one,List.getElem?_eq_getElem hk,AB]
 simp[eh]
theorem WO(es:List af)(c:ae)(rows:List (List aK.Bind))(k j:Nat):eh es c (rows.take k) j<=eh es c rows j:=by
 have:=AB es c (rows.take k) (rows.drop k) j
 rw[List.take_append_drop]at this
 omega
theorem Jo(es:List af)(c:ae)(rows:List (List aK.Bind)){j:Nat}(h:aR c<=j):eh es c rows j=0:=by
 unfold eh
 induction rows with
 |nil=>rfl
 |cons b rows ih=>rw[List.map_cons,List.sum_cons,ih,Vy es c b h]
theorem ze(es:List af)(c:ae)(rows:List (List aK.Bind)):eh es c rows 0=(rows.flatMap λb=>jQ es c b).length:=by
 unfold eh
 rw[List.length_flatMap]
 congr 1
 exact List.map_congr_left λb _=>pb es c b
theorem CS(es:List af):∀(a b:List ae) (rows:List (List aK.Bind)),kD es (a++b) rows=kD es b (kD es a rows)
 |[],_,_=>rfl
 |c::a,b,rows=>by simp only[List.cons_append,kD];exact CS es a b _
theorem zX(es:List af):∀(a b:List ae) (rows:List (List aK.Bind)) (j:Nat),cL es (a++b) rows j=cL es a rows j+sh (aj a) (cL es b (kD es a rows)) j
 |[],b,rows,j=>by simp[cL,kD,aj,Hd]
 |d::a,b,rows,j=>by
  simp only[List.cons_append,cL,kD,aj]
  by_cases h:j<aR d
  ·rw[if_pos h,if_pos h]
   unfold sh;rw[if_neg (by omega)];rfl
  ·rw[if_neg h,if_neg h,zX es a b]
   congr 1
   unfold sh
   by_cases h2:aj a<=j-aR d
   ·rw[if_pos h2,if_pos (by omega)];congr 1;omega
   ·rw[if_neg h2,if_neg (by omega)]
theorem Vo(es:List af)(c:ae)(rows:List (List aK.Bind))(j:Nat):cL es [c] rows j=eh es c rows j:=by
 simp only[cL]
 by_cases h:j<aR c
 ·rw[if_pos h];rfl
 ·rw[if_neg h,Jo es c rows (by omega)]
theorem Ca(es:List af){l:List ae}{i:Nat}(hi:i<l.length)(rows:List (List aK.Bind))(j:Nat):cL es (l.take (i+1)) rows j=cL es (l.take i) rows j+sh (aj (l.take i)) (eh es l[i] (kD es (l.take i) rows)) j:=by
 have e:l.take (i+1)=l.take i++[l[i]]:=by rw[List.take_add_one,List.getElem?_eq_getElem hi];rfl
 rw[e,zX]
 congr 1
 exact xF (λj=>Vo es _ _ j) j
theorem af4(es:List af)(l:List ae)(i:Nat)(rows:List (List aK.Bind))(j:Nat):cL es (l.take i) rows j<=cL es l rows j:=by
 have:=zX es (l.take i) (l.drop i) rows j
 rw[List.take_append_drop]at this
 omega
theorem SZ(es:List af){l:List ae}{i:Nat}(hi:i<l.length)(rows:List (List aK.Bind)):kD es (l.take (i+1)) rows=(kD es (l.take i) rows).flatMap λb=>jQ es l[i] b:=by
 have e:l.take (i+1)=l.take i++[l[i]]:=by rw[List.take_add_one,List.getElem?_eq_getElem hi];rfl
 rw[e,CS];rfl
theorem jE{l:List ae}{i:Nat}(hi:i<l.length):aj (l.take (i+1))=aj (l.take i)+aR l[i]:=by
 have e:l.take (i+1)=l.take i++[l[i]]:=by rw[List.take_add_one,List.getElem?_eq_getElem hi];rfl
 have h:∀(a b:List ae),aj (a++b)=aj a+aj b:=λa b=>by
  induction a with
  |nil=>simp[aj]
  |cons c a ih=>simp only[List.cons_append,aj,ih];omega
 rw[e,h];simp[aj]
theorem fX(l:List ae)(i:Nat):aj (l.take i)<=aj l:=by
 have h:∀(a b:List ae),aj (a++b)=aj a+aj b:=λa b=>by
  induction a with
  |nil=>simp[aj]
  |cons c a ih=>simp only[List.cons_append,aj,ih];omega
 have:=h (l.take i) (l.drop i)
 rw[List.take_append_drop]at this
 omega
theorem OS{es:List af}{c:ae}(hl:cr c){b r:List aK.Bind}(h:r∈jQ es c b):r.length<=b.length+100*aR c:=by
 obtain⟨_,l1,l2,_⟩:=(bu c).1 hl
 have hs:1<=aR c:=by rw[bM];omega
 rw[iQ]at h
 split at h
 ·obtain⟨⟨e,r'⟩,hx,rfl⟩:=List.mem_map.1 h
  unfold aN at hx
  obtain⟨e',_,he⟩:=List.mem_filterMap.1 hx
  cases hc:cO c e' b with
  |none=>rw[hc]at he;cases he
  |some q=>
   rw[hc]at he
   simp only[Option.map_some,Option.some.injEq,Prod.mk.injEq]at he
   have:=GD hc
   obtain⟨rfl,rfl⟩:=he
   show q.length<=_
   omega
 ·split at h
  ·split at h
   ·simp only[List.mem_singleton]at h;subst h;omega
   ·cases h
  ·split at h
   ·simp only[List.mem_singleton]at h;subst h;omega
   ·cases h
theorem Oq{es:List af}:∀{l:List ae} {rows:List (List aK.Bind)} {m:Nat},bD l->(∀b∈rows,b.length<=m)->∀r∈kD es l rows,r.length<=m+100*aj l
 |[],rows,m,_,h,r,hr=>by have:=h r hr;simp[aj];omega
 |c::cs,rows,m,hl,h,r,hr=>by
  simp only[kD]at hr
  have:=Oq (l:=cs) (m:=m+100*aR c) hl.2 (λb hb=>by
   obtain⟨a,ha,hb⟩:=List.mem_flatMap.1 hb
   have h1:=OS hl.1 hb
   have h2:=h a ha
   omega) r hr
  simp only[aj]
  omega
namespace K6
theorem yB(a b:ByteArray):Pure prog 339 [pS a,pS b] (pI (aI a b)):=by
 refine ao.of (tr.c ?_)
 refine ab.mk (λh=>?_) (λh=>ab.mk (λh1=>?_) (λh1=>?_))
 ·simp[aI,h,wk,cH]
 ·simp only[aI,h,wk,cH];simp only[h]at h1;rw[h1];rfl
 ·simp only[aI,h,wk,cH];simp only[h]at h1;rw[h1];rfl
def da(L:List ByteArray):Lq:=L.map λs=>[pS s]
theorem dA(L:List ByteArray):∀r∈da L,r.length=1:=λr hr=>by
 obtain⟨s,_,rfl⟩:=List.mem_map.1 hr;rfl
theorem kY(L:List ByteArray):br (da L).flatten=true:=by
 unfold br da
 rw[List.all_eq_true]
 intro x hx
 obtain⟨r,hr,hx⟩:=List.mem_flatten.1 hx
 obtain⟨s,_,rfl⟩:=List.mem_map.1 hr
 simp only[List.mem_singleton]at hx
 subst hx;rfl
@[simp] theorem dM(L:List ByteArray):(da L).length=L.length:=by simp[da]
theorem JA{L:List ByteArray}{i:Nat}(h:i<L.length):(da L)[Int.toNat (i:Int)]?=some [pS L[i]]:=by
 rw[Int.toNat_natCast,da,List.getElem?_map,List.getElem?_eq_getElem h];rfl
abbrev xA:TypeId:=309
abbrev tyName:TypeId:=214
abbrev Em(μ:Mem)(b:Nat)(L:List ByteArray)(F:List Nat):Prop:=jK xA tyName 1 μ b (da L) F
theorem Np(b:Nat)(s:Bool)(L:List ByteArray)(hu:Up aI L)(hl:L.length<=1000000)(x:ByteArray):aa prog 251 [pP b 0,pS x] (M0.set b (some (.ro xA [.list 1 .sh (da L),pB s]))) λp _=>∃(k:Nat) (t:Bool),p=.aD [pI k,pB t]/\cE aI L x k t:=by
 refine mW.c ?_
 refine⟨_,_,zk (Mem.aq _ _ _) (by simp),?_⟩
 have fB:∀u,u=M0.set b (some (.ro xA [.list 1 .sh (da L),pB s]))->aB u b 0 1=some [.list 1 .sh (da L)]:=λu h=>by rw[h];exact zk (Mem.aq _ _ _) (by simp)
 rw[dM]
 refine ak.bin (n:=L.length) (by omega) (λi=>if h:i<L.length then aI L[i] x else 1) (λu=>u=M0.set b (some (.ro xA [.list 1 .sh (da L),pB s]))) rfl ?_ ?_ ?_ ?_
 ·intro i j LI hj h
  rw[dif_pos hj]at h
  rw[dif_pos (Nat.lt_trans LI hj)]
  exact hu.Zl aP LI hj h
 ·intro i j LI hj h
  rw[dif_pos (Nat.lt_trans LI hj)]at h
  rw[dif_pos hj]
  exact hu.Zk aP LI hj h
 ·intro lo hi AN u next cz hhi abo OL hA h1 h2 h3
  subst hA
  rw[dif_pos OL]at h1 h2 h3
  refine ab.t (by simpa using cz) ⟨by decide,?_⟩
  refine⟨_,_,fB _ rfl,?_⟩
  dsimp only
  rw[aeu cz (by omega),<- abo]
  refine⟨by omega,_,JA OL,_,rfl,λv=>by kernel_rfl,(yB L[AN] x).call ⟨_,rfl,ab.mk (λh=>?_) (λh=>ab.mk (λh'=>?_) (λh'=>?_))⟩⟩
  ·have h0:aI L[AN] x=0:=by simpa using h
   refine⟨AN,true,rfl,Nat.le_of_lt OL,λi hi ym=>?_,λ_=>⟨OL,(zS).1 h0⟩,λh=>by cases h⟩
   have:=h3 h0 i ym
   rw[dif_pos hi]at this;exact this
  ·have h0:aI L[AN] x<0:=by simpa using h'
   have:=h1 h0 _ rfl
   rw[az (by omega) (by omega)]
   exact this
  ·have h0:0<aI L[AN] x:=by
    have a1:aI L[AN] x≠0:=by simpa using h
    have a2:¬aI L[AN] x<0:=by simpa using h'
    omega
   exact h2 h0 _ rfl
 ·intro k u next hA hk h1 h2
  refine ab.f (by simp) ?_
  refine⟨k,false,rfl,hk,λi hi ym=>?_,λh=>(by cases h),λ_ i hi ym=>?_⟩
  ·have:=h1 i ym;rw[dif_pos hi]at this;exact this
  ·have:=h2 i ym hi;rw[dif_pos hi]at this;exact this
theorem aak{μ:Mem}{b:Nat}{L:List ByteArray}{F:List Nat}(h:Em μ b L F)(hu:Up aI L)(hl:L.length<=1000000)(x:ByteArray){K:Kq}(hk:∀(k:Nat) (t:Bool),cE aI L x k t->K (.aD [pI k,pB t]) μ):aa prog 251 [pP b 0,pS x] μ K:=
 jK.query h (λs=>Np b s L hu hl x) (λp ⟨k,t,e,_⟩=>by rw[e];rfl) λp ⟨k,t,e,hf⟩=>by rw[e];exact hk k t hf
theorem tc{μ:Mem}{b:Nat}{L:List ByteArray}{F:List Nat}(h:Em μ b L F)(hu:Up aI L)(hl:L.length<=1000000)(x:ByteArray){K:Kq}(hk:∀(k:Nat) (t:Bool),cE aI L x k t->K (.aD [pI k,pB t]) μ):aa prog 256 [pP b 0,pS x] μ K:=by
 refine mc.c ?_
 exact ab.f rfl (aak h hu hl x λk t hf=>⟨_,_,rfl,hk k t hf⟩)
theorem Nl{μ:Mem}{b:Nat}{L:List ByteArray}{F:List Nat}(h:Em μ b L F)(hl:L.length<=1000000){K:Kq}(hk:∀μ' F',vd xA tyName 1 μ' b (da L) F'->Mv μ μ' F F'->K (.aD []) μ'):aa prog 252 [pP b 0] μ K:=by
 obtain⟨μ0,hG,RO,Ub⟩:=h.raw
 refine aa.pre hG (om.c ?_)
 rcases Ub with⟨rfl,hm⟩|hr
 ·refine⟨true,aE hm (by simp),ab.t rfl ?_⟩
  refine⟨_,_,aE hm (by simp),?_⟩
  refine⟨_,_,aE hm (by simp),?_⟩
  rw[dM,az (by omega) (by omega)]
  refine⟨by omega,by omega,by omega,by omega,λEf HS=>?_⟩
  have aT:Ef≠b:=by rintro rfl;rw[hm]at HS;cases HS
  have hn:Int.toNat ((L.length:Int)+1)=L.length+1:=by omega
  rw[hn]
  refine Lg (Mem.aq _ _ _) (by simp) (by simp) (dA L) (kY L) (by simp;omega) (by simp;omega) ?_
  rw[Mem.set_set]
  refine⟨_,_,by rw[Mem.aC _ _ (Ne.symm aT)];exact hm,by simp,?_⟩
  refine⟨_,_,Mem.aq _ _ _,by simp[dN],?_⟩
  rw[Mem.set_set]
  refine hk _ [b,Ef] (.inr ⟨Ef,L.length+1,_,rfl,aT,by rw[Mem.aq];rfl,by rw[Mem.aC _ _ aT,Mem.aq],by simp,by simp⟩) (RO.trans ?_)
  exact((Mv.set (F:=[b]) (.inr HS)).trans (Mv.set (.inl (by simp)))).sub (by simp)
 ·obtain⟨a,c,hm,_⟩:=hr.app (dA L)
  exact⟨false,aE hm (by simp),ab.f rfl (hk μ0 F hr RO)⟩
theorem sL(L:List ByteArray)(j:Nat)(y:ByteArray):(L.take j++y::L.drop j).length=L.length+1:=by
 rw[List.length_append,List.length_cons,List.length_take,List.length_drop];omega
theorem XB(L:List ByteArray)(j:Nat)(y:ByteArray)(h0:0<j)(hj:j<=L.length):(da (L.take j++y::L.drop j)).set j [pS (L[j-1]'(by omega))]=da (L.take (j-1)++(L[j-1]'(by omega))::L.drop (j-1)):=by
 have e:L.drop (j-1)=L[j-1]'(by omega)::L.drop j:=by
  rw[List.drop_eq_getElem_cons (by omega)];congr 2;omega
 have e2:L.take j=L.take (j-1)++[L[j-1]'(by omega)]:=by
  have:=List.take_add_one (l:=L) (i:=j-1)
  rw[show j-1+1=j by omega,List.getElem?_eq_getElem (by omega)]at this
  exact this
 have hlen:(L.take j).length=j:=by rw[List.length_take];omega
 unfold da
 rw[List.map_append,List.map_cons,List.set_append_right _ _ (by simp;omega)]
 simp only[List.length_map,hlen,Nat.sub_self,List.set_cons_zero]
 rw[e2,e,List.map_append,List.append_assoc,List.map_append]
 rfl
theorem aa7(L:List ByteArray)(j:Nat)(x y:ByteArray)(hj:j<=L.length):(da (L.take j++y::L.drop j)).set j [pS x]=da (L.take j++x::L.drop j):=by
 have hlen:(L.take j).length=j:=by rw[List.length_take];omega
 unfold da
 rw[List.map_append,List.map_cons,List.set_append_right _ _ (by simp;omega)]
 simp only[List.length_map,hlen,Nat.sub_self,List.set_cons_zero]
 rw[List.map_append,List.map_cons]
theorem aey(L:List ByteArray)(j:Nat)(y:ByteArray)(h0:0<j)(hj:j<=L.length):(da (L.take j++y::L.drop j))[j-1]?=some [pS (L[j-1]'(by omega))]:=by
 unfold da
 rw[List.getElem?_map,List.getElem?_append_left (by rw[List.length_take];omega),List.getElem?_take,if_pos (by omega),List.getElem?_eq_getElem (by omega)]
 rfl
theorem gW{μ:Mem}{b:Nat}{L:List ByteArray}{F:List Nat}(h:Em μ b L F)(hu:Up aI L)(hl:L.length<=999999)(x:ByteArray){K:Kq}
  (hk:∀μ' L' F' (t:Bool),(t=true↔x∉L)->Em μ' b L' F'->Up aI L'->(∀y,y∈L'↔y=x\/y∈L)->L'.length<=L.length+t.toNat->Mv μ μ' F F'->K (pB t) μ'):aa prog 193 [pP b 0,pS x] μ K:=by
 refine oo.c ?_
 refine ab.f rfl (aak h hu (by omega) x λk t hf=>⟨_,_,rfl,ab.mk (λht=>?_) (λht=>?_)⟩)
 ·have hx:x∈L:=(hf.mem aP).1 ht
  exact hk μ L F false ⟨λh=>(by cases h),λh=>absurd hx h⟩ h hu (λy=>⟨λh=>.inr h,λh=>h.elim (λe=>e▸hx) id⟩) (by simp) (Mv.refl _ _)
 ·subst ht
  have hx:x∉L:=λhx=>by have:=(hf.mem aP).2 hx;cases this
  refine Nl h (by omega) λμ1 F1 hr AS=>⟨rfl,?_⟩
  obtain⟨a,c,hb,q_⟩:=hr.app (dA L)
  refine⟨_,_,_,aE hb (by simp),?_⟩
  simp only[dM]at q_
  rw[dM]
  refine q_ [pS x] 16 _ rfl rfl (by omega) (by omega) λb' c' rest μ2 aT e2 iK kQ rI uX=>?_
  refine⟨_,_,e2.trans hb,by simp,?_⟩
  refine⟨_,_,_,aE (Mem.aq _ _ _) (by simp[dN]),?_⟩
  have Zz:IntKind.wrap .i64 (((L.length+1:Nat):Int)-1)=(L.length:Int):=by rw[az (by omega) (by omega)];omega
  rw[Zz]
  have hsl:dN [.raw (.slice a L.length c),pB false] 0 [PV.raw (.slice (some ⟨b',0,none⟩) (L.length+1) c')]=[.raw (.slice (some ⟨b',0,none⟩) (L.length+1) c'),pB false]:=rfl
  refine ak.down hf.le (by omega) (λj u=>∃y,u b=some (.cells xA [.raw (.slice (some ⟨b',0,none⟩) (L.length+1) c'),pB false])/\u b'=some (.cells tyName ((da (L.take j++y::L.drop j)).flatten++rest))/\Mv μ2 u [b,b'] [b,b']) ⟨x,?_,?_,?_⟩ ?_ ?_
  ·rw[Mem.aq];rfl
  ·rw[Mem.aC _ _ aT,iK,List.take_length,List.drop_length]
   simp[da]
  ·exact(Mv.set (.inl (by simp))).sub (by simp)
  ·rintro j u next hkj Wm ⟨y,i1,i2,i3⟩ ar
   refine ab.t (by simpa using hkj) ?_
   refine⟨_,_,_,aE i1 (by simp),?_⟩
   refine⟨_,_,_,aE i1 (by simp),?_⟩
   have MV:IntKind.wrap .i64 ((j:Int)-1)=((j-1:Nat):Int):=by rw[az (by omega) (by omega)];omega
   refine⟨by rw[MV];omega,by rw[MV];omega,L[j-1]'(by omega),?_,?_⟩
   ·rw[MV,Int.toNat_natCast,Nat.zero_add]
    exact JD (dA _) i2 (aey L j y (by omega) Wm)
   ·refine⟨by omega,by omega,_,_,i2,?_,ar _ ⟨L[j-1]'(by omega),?_,?_,?_⟩⟩
    ·have pq:=gj (dA (L.take j++y::L.drop j))
     rw[dM,sL]at pq
     rw[List.length_append,pq,Int.toNat_natCast,List.length_singleton];omega
    ·rw[Mem.aC _ _ (Ne.symm aT)];exact i1
    ·rw[Mem.aq,Int.toNat_natCast,Nat.zero_add,FA (dA _) (by rw[dM,sL];omega) rfl,XB L j y (by omega) Wm]
    ·exact(i3.trans (Mv.set (.inl (by simp)))).sub (by simp)
  ·rintro u next ⟨y,i1,i2,i3⟩
   refine ab.f (by simp) ?_
   refine⟨_,_,_,aE i1 (by simp),?_⟩
   have hle:=hf.le
   refine⟨by omega,by omega,_,_,i2,?_,?_⟩
   ·have pq:=gj (dA (L.take k++y::L.drop k))
    rw[dM,sL]at pq
    rw[List.length_append,pq,Int.toNat_natCast,List.length_singleton];omega
   ·rw[Int.toNat_natCast,Nat.zero_add,FA (dA _) (by rw[dM,sL];omega) rfl,aa7 L k x y hf.le]
    refine hk (u.set b' (some (.cells tyName ((da (L.take k++x::L.drop k)).flatten++rest)))) (L.take k++x::L.drop k) [b,b'] true ⟨λ_=>hx,λ_=>rfl⟩ ⟨dA _,kY _,.inr (.inr (.inr ⟨b',c',rest,rfl,aT,?_,Mem.aq _ _ _,?_,?_⟩))⟩ (hf.put aP hu) (λy=>cE.aa3) (by rw[sL];simp) ?_
    ·rw[Mem.aC _ _ (Ne.symm aT),i1,dM,sL]
    ·rw[dM,sL];exact kQ
    ·rw[dM,sL];exact rI
    ·exact AS.trans (uX.trans ((i3.trans (Mv.set (.inl (by simp)))).sub (by simp)))
theorem acu{μ:Mem}{b:Nat}{L:List ByteArray}{F:List Nat}(h:Em μ b L F){K:Kq}(hk:∀μ' b',(b'∈F\/μ b'=none)->b'≠b->Em μ' b L [b]->Em μ' b' L [b']->Mv μ μ' F [b',b]->K (pP b' 0) μ'):aa prog 253 [pP b 0] μ K:=by
 obtain⟨μ0,s,hG,hm,RO⟩:=h.list
 refine aa.pre hG (mf.c ?_)
 refine ab.f rfl ?_
 refine⟨_,_,hm,by simp,?_⟩
 refine⟨_,_,aE (Mem.aq _ _ _) (by simp[dN]),λb' iK=>?_⟩
 have aT:b'≠b:=by rintro rfl;rw[Mem.aq]at iK;cases iK
 have hb0:=iK
 rw[Mem.aC _ _ aT]at hb0
 have uX:Mv μ (((μ0.set b (some (.cells xA (dN [.list 1 .sh (da L),pB s] (0+1) [pB true])))).set b' (some (.cells xA [.list 1 .sh (da L),pB true])))) F [b',b]:=(RO.trans ((Mv.set (.inl (by simp))).trans (Mv.set (.inr iK)))).sub (by simp)
 refine hk _ b' (uX.grow b' (by simp)) aT ⟨dA L,kY L,.inl ⟨rfl,?_⟩⟩ ⟨dA L,kY L,.inl ⟨rfl,Mem.aq _ _ _⟩⟩ uX
 rw[Mem.aC _ _ (Ne.symm aT),Mem.aq];rfl
theorem iy{μ:Mem}(fl:Fl){K:Kq}(hk:∀μ' b,μ b=none->Em μ' b [] [b]->Mv μ μ' [] [b]->K (pP b 0) μ'):aa prog 129 [.list 1 fl []] μ K:=by
 refine rz.c ?_
 intro b hb
 refine ak.each (n:=0) (by omega) (λ_ u=>u=μ.set b (some (.cells xA [.list 1 .nil [],pB false]))) rfl (λk u next bW=>by omega) ?_
 rintro u next rfl
 refine ab.f (by simp) (hk _ b hb ⟨dA [],kY [],.inr (.inl ⟨rfl,rfl,Mem.aq _ _ _⟩)⟩ ((Mv.set (.inr hb)).sub (by simp)))
end K6
@[reducible] def p8(c:UInt8):PV:=.raw (.int .u8 ((c.toNat:Nat):Int))
def jU(c:UInt8):Bool:=decide ((c.toNat:Int)>=97)&&decide ((c.toNat:Int)<=122)
def Ig(c:UInt8):Bool:=decide ((c.toNat:Int)>=48)&&decide ((c.toNat:Int)<=57)
def HU(c:UInt8):Bool:=decide ((c.toNat:Int)>=65)&&decide ((c.toNat:Int)<=90)
def nE(c:UInt8):Bool:=jU c||(Ig c||(((c.toNat:Int) == 45)||((c.toNat:Int) == 95)))
def uL(l:List UInt8):Bool:=decide (1<=l.length)&&(decide (l.length<=32)&&((match l with|c::_=>jU c|[]=>false)&&l.all nE))
def kL(t:ByteArray):Bool:=uL (bL t)
def gS(s:Sym):Bool:=
 bif s.k == 1 then(match bL s.t with|[c]=>HU c&&(decide (s.n>=1)&&decide (s.n<=1048576))|_=>false)else
 bif s.k == 2 then aJ s.t ⟨#[]⟩&&(decide (s.n>= -2147483647)&&decide (s.n<=2147483647))else
 bif s.k == 3 then(s.n == 0)&&kL s.t else false
theorem Vc(c:UInt8):Pure prog 244 [p8 c] (pB (jU c)):=by
 refine ao.of (Lq.c ?_)
 refine ab.mk (λh=>?_) (λh=>?_)<;>simp_all [jU,wk,cH]<;>omega
theorem acr(c:UInt8):Pure prog 245 [p8 c] (pB (Ig c)):=by
 refine ao.of (Ls.c ?_)
 refine ab.mk (λh=>?_) (λh=>?_)<;>simp_all [Ig,wk,cH]<;>omega
theorem acp(c:UInt8):Pure prog 217 [p8 c] (pB (HU c)):=by
 refine ao.of (Lr.c ?_)
 refine ab.mk (λh=>?_) (λh=>?_)<;>simp_all [HU,wk,cH]<;>omega
theorem af0(c:UInt8):Pure prog 201 [p8 c] (pB (nE c)):=by
 refine ao.of (wW.c ?_)
 repeat' (refine ab.mk (λh=>?_) (λh=>?_))
 all_goals (simp only[wk,cH,PV.raw.injEq,Value.bool.injEq,nE,jU,Ig];grind)
theorem LM{c:UInt8}{l:List UInt8}(h1:(c::l).length<=32)(h2:jU c=true):uL (c::l)=l.all nE:=by
 simp only[uL,List.length_cons]at*
 have hp:nE c=true:=by simp[nE,h2]
 simp[h2,hp];omega
theorem GK(t:ByteArray):Pure prog 187 [pS t] (pB (kL t)):=by
 refine ao.of (NM.c ?_)
 have hlen:=Ec t
 unfold kL
 generalize hL:bL t=L at hlen
 refine ab.mk (λh=>?_) (λh=>ab.mk (λh2=>?_) (λh2=>?_))
 ·have:L=[]:=List.eq_nil_of_length_eq_zero (by simp at h;omega)
  subst this;rfl
 ·have:¬L.length<=32:=by simp at h2;omega
  simp[uL,this,wk,cH]
 ·have h1:1<=t.size:=by simp at h;omega
  have h3:L.length<=32:=by simp at h2;omega
  have rJ:∀k (hk:k<L.length),t[Int.toNat (k:Int)]?=some L[k]:=λk hk=>by subst hL;exact Is (by omega)
  obtain⟨c,l,rfl⟩:∃c l,L=c::l:=by
   cases L with
   |nil=>simp at hlen;omega
   |cons c l=>exact⟨c,l,rfl⟩
  refine⟨by omega,c,rJ 0 (by simp),(Vc c).call ⟨_,rfl,ab.mk (λh4=>?_) (λh4=>?_)⟩⟩
  ·have h4:jU c=false:=by simpa using h4
   simp[uL,h4,wk,cH]
  ·have h4:jU c=true:=by simpa using h4
   rw[LM h3 h4]
   refine ak.from (s:=1) (n:=t.size) h1 (by omega) (λk u=>(l.take (k-1)).all nE=true) (by simp) ?_ ?_
   ·intro k u next jw hk hg ar
    have bW:k<(c::l).length:=by omega
    have ED:k-1<l.length:=by simp at bW;omega
    have hck:(c::l)[k]=l[k-1]:=by
     cases k with
     |zero=>omega
     |succ k=>simp
    have hx:=rJ k bW
    rw[hck]at hx
    have go:nE l[k-1]=true->∀u',next (IntKind.wrap .i64 ((k:Int)+1)) u':=λhp u'=>ar u' (by
     have:k+1-1=k-1+1:=by omega
     rw[this,Iu ED hg];exact hp)
    have stop:nE l[k-1]=false->wk (pB false)=pB (l.all nE):=λhp=>by rw[Iv ED hp];rfl
    refine ab.t (by simpa using hk) ⟨by omega,_,hx,(Vc _).call ⟨_,rfl,ab.mk (λa1=>?_) (λa1=>go ?_ _)⟩⟩
    ·refine⟨by omega,_,hx,(acr _).call ⟨_,rfl,ab.mk (λa2=>?_) (λa2=>go ?_ _)⟩⟩
     ·refine⟨by omega,_,hx,ab.mk (λa3=>⟨by omega,_,hx,ab.mk (λa4=>stop ?_) (λa4=>go ?_ _)⟩) (λa3=>go ?_ _)⟩<;>simp_all [nE]
     ·simp_all [nE]
    ·simp_all [nE]
   ·intro u next hg
    refine ab.f (by simp) ?_
    have:t.size-1=l.length:=by simp at hlen;omega
    rw[this,List.take_length]at hg
    rw[hg];rfl
theorem sZ(t:ByteArray):Pure prog 136 [pS t] (pB (kL t)):=by
 refine ao.of (wV.c ?_)
 have hlen:=Ec t
 unfold kL
 generalize hL:bL t=L at hlen
 refine ab.mk (λh=>?_) (λh=>ab.mk (λh2=>?_) (λh2=>?_))
 ·have:L=[]:=List.eq_nil_of_length_eq_zero (by simp at h;omega)
  subst this;rfl
 ·have:¬L.length<=32:=by simp at h2;omega
  simp[uL,this,wk,cH]
 ·have h1:1<=t.size:=by simp at h;omega
  have h3:L.length<=32:=by simp at h2;omega
  have rJ:∀k (hk:k<L.length),t[Int.toNat (k:Int)]?=some L[k]:=λk hk=>by subst hL;exact Is (by omega)
  obtain⟨c,l,rfl⟩:∃c l,L=c::l:=by
   cases L with
   |nil=>simp at hlen;omega
   |cons c l=>exact⟨c,l,rfl⟩
  refine⟨by omega,c,rJ 0 (by simp),ab.mk (λh4=>?_) (λh4=>⟨by omega,c,rJ 0 (by simp),ab.mk (λh5=>?_) (λh5=>?_)⟩)⟩
  ·have:jU c=false:=by simp at h4;simp[jU];omega
   simp[uL,this,wk,cH]
  ·have:jU c=false:=by simp at h5;simp[jU];omega
   simp[uL,this,wk,cH]
  ·have hs:jU c=true:=by simp at h4 h5;simp[jU];omega
   have hw:uL (c::l)=(c::l).all nE:=by
    simp only[List.length_cons]at h3
    simp[uL,hs];omega
   rw[hw]
   refine ak.each (n:=t.size) (by omega) (λk u=>((c::l).take k).all nE=true) (by simp) ?_ ?_
   ·intro k u next hk hg ar
    have bW:k<(c::l).length:=by omega
    refine ab.t (by simpa using hk) ⟨by omega,_,rJ k bW,(af0 _).call ⟨_,rfl,ab.mk (λa1=>?_) (λa1=>ar _ ?_)⟩⟩
    ·rw[Iv bW (by simpa using a1)];rfl
    ·rw[Iu bW hg];simpa using a1
   ·intro u next hg
    refine ab.f (by simp) ?_
    rw[<- hlen,List.take_length]at hg
    rw[hg];rfl
theorem BS{t:ByteArray}:((((t.size:Nat):Int) == 1)=true↔∃c,bL t=[c]):=by
 have hlen:=Ec t
 constructor
 ·intro h
  have h1:(bL t).length=1:=by simp at h;omega
  exact List.length_eq_one_iff.1 h1
 ·rintro⟨c,hc⟩
  rw[hc]at hlen
  simp at hlen |-;omega
theorem Ij(s:Sym):Pure prog 150 [.agg s.pv] (pB (gS s)):=by
 refine ao.of (Lt.c ?_)
 refine ab.mk (λh=>?_) (λh=>ab.mk (λh2=>?_) (λh2=>ab.mk (λh3=>?_) (λh3=>?_)))
 ·refine ab.mk (λa=>?_) (λa=>?_)
  ·obtain⟨c,hc⟩:=BS.1 a
   have rJ:s.t[Int.toNat 0]?=some c:=by
    have:=Is (t:=s.t) (k:=0) (by have:=Ec s.t;rw[hc]at this;simp at this;omega)
    simpa[hc]using this
   refine⟨by omega,c,rJ,(acp c).call ⟨_,rfl,ab.mk (λb=>ab.mk (λd=>?_) (λd=>?_)) (λb=>?_)⟩⟩<;>simp_all [gS,wk,cH]<;>omega
  ·have:∀c,bL s.t≠[c]:=λc hc=>by rw[BS.2 ⟨c,hc⟩]at a;cases a
   have hv:gS s=false:=by
    simp only[gS,h,cond_true]
    all_goals (split<;>first|rfl|(rename_i c hc;exact absurd hc (this c)))
   rw[hv];rfl
 ·refine ab.mk (λa=>ab.mk (λb=>?_) (λb=>?_)) (λa=>?_)<;>simp_all [gS,wk,cH]<;>omega
 ·refine ab.mk (λa=>(GK s.t).call ⟨_,rfl,?_⟩) (λa=>?_)<;>simp_all [gS,wk,cH]<;>omega
 ·simp_all [gS,wk,cH]
theorem zT(s:Sym):Pure prog 161 [.agg s.pv] (pB (gS s)):=by
 refine ao.of (uG.c ?_)
 refine ab.mk (λh=>?_) (λh=>ab.mk (λh2=>?_) (λh2=>ab.mk (λh3=>?_) (λh3=>?_)))
 ·refine ab.mk (λa=>?_) (λa=>?_)
  ·obtain⟨c,hc⟩:=BS.1 a
   have rJ:s.t[Int.toNat 0]?=some c:=by
    have:=Is (t:=s.t) (k:=0) (by have:=Ec s.t;rw[hc]at this;simp at this;omega)
    simpa[hc]using this
   refine⟨by omega,c,rJ,ab.mk (λb=>⟨by omega,c,rJ,ab.mk (λb2=>ab.mk (λd=>?_) (λd=>?_)) (λb2=>?_)⟩) (λb=>?_)⟩<;>simp_all [gS,HU,wk,cH]<;>omega
  ·have:∀c,bL s.t≠[c]:=λc hc=>by rw[BS.2 ⟨c,hc⟩]at a;cases a
   have hv:gS s=false:=by
    simp only[gS,h,cond_true]
    all_goals (split<;>first|rfl|(rename_i c hc;exact absurd hc (this c)))
   rw[hv];rfl
 ·refine ab.mk (λa=>ab.mk (λb=>?_) (λb=>?_)) (λa=>?_)<;>simp_all [gS,wk,cH]<;>omega
 ·refine ab.mk (λa=>(sZ s.t).call ⟨_,rfl,?_⟩) (λa=>?_)<;>simp_all [gS,wk,cH]<;>omega
 ·simp_all [gS,wk,cH]
def nX(s:Sym):Bool:=(s.k != 1)&&gS s
theorem zU(s:Sym):Pure prog 162 [.agg s.pv] (pB (nX s)):=by
 refine ao.of (uH.c ?_)
 refine(zT s).call ⟨_,rfl,ab.mk (λa=>?_) (λa=>?_)⟩<;>simp_all [nX,wk,cH]
def uT(s:Sym):Bool:=(s.k == 0)&&(aJ s.t ⟨#[]⟩&&((s.n == 0)&&true))
def wg(a:Atom):Bool:=aJ a.var ⟨#[]⟩&&uT a.sym
def kU(a:Atom):Bool:=bif aJ a.var ⟨#[]⟩then nX a.sym else kL a.var&&uT a.sym
def eQ(t:Test):Bool:=
 bif t.rel == 8 then aJ t.var ⟨#[]⟩&&(uT t.sym&&(decide (1<=t.list.length)&&(decide (t.list.length<=8)&&t.list.all nX)))
 else decide (1<=t.rel)&&(decide (t.rel<=7)&&(decide (t.list.length=0)&&kU ⟨t.var,t.sym⟩))
def FC(a:Atom):Bool:=aJ a.var ⟨#[]⟩&&(a.sym.k == 3)
def nq(t:Term):Bool:=decide (0<=t.op)&&(decide (t.op<=3)&&(kU t.a&&(bif t.op == 0 then wg t.b else kU t.b&&(!FC t.a&& !FC t.b))))
def CR(k:Int):Bool:=(k == 8)||((k == 9)||(k == 10))
def kG(a:dh):Bool:=kL a.id&&(kU a.attr&&(nq a.value&&(decide (1<=a.sy)&&(decide (a.sy<=10)&&(bif CR a.sy then kU a.other else wg a.other)))))
def bQ(c:ae)(deep:Int):Int:=
 bif c.kind == 3 then
  (bif c.goal||(!aJ c.id ⟨#[]⟩||(decide (0<c.attr.length)||(decide (0<c.value.length)||(c.acc||decide (c.conds.length=0)))))then 9 else bif decide (3<=deep)then 8 else 0)
 else bif (c.kind == 1)||(c.kind == 2)then
  (bif decide (0<c.conds.length)||(!kL c.id||decide (c.attr.length=0))then 9 else
   bif decide (4<c.attr.length)||decide (4<c.value.length)then 7 else
   bif !(c.attr.all eQ)|| !(c.value.all eQ)then 9 else 0)
 else 9
def dB:List (Nat×Nat×ae)->Option (Nat×Int)
 |[]=>none
 |(a,d,c)::l=>bif bQ c d == 0 then dB l else some (a,bQ c d)
theorem gR(a b:List (Nat×Nat×ae)):dB (a++b)=(dB a).or (dB b):=by
 induction a with
 |nil=>rfl
 |cons x a ih=>
  obtain⟨p,d,c⟩:=x
  simp only[List.cons_append,dB]
  cases bQ c d == 0
  ·rfl
  ·exact ih
def jz:Nat->List dh->Option Nat
 |_,[]=>none
 |i,a::l=>bif kG a then jz (i+1) l else some i
theorem KL{l:List dh}{k i:Nat}(hk:k<l.length)(h:jz i (l.take k)=none):jz i (l.take (k+1))=(bif kG l[k]then none else some (i+k)):=by
 induction l generalizing k i with
 |nil=>simp at hk
 |cons a l ih=>
  cases k with
  |zero=>simp[jz]
  |succ k=>
   simp only[List.take_succ_cons,jz,List.getElem_cons_succ]at h |-
   cases ha:kG a with
   |false=>rw[ha]at h;cases h
   |true=>
    rw[ha]at h
    simp only[cond_true]at h |-
    rw[ih (by simpa using hk) h]
    congr 2;omega
theorem Nb{l:List dh}{k i:Nat}(hk:k<l.length)(h:jz i (l.take k)=none)(ha:kG l[k]=false):jz i l=some (i+k):=by
 induction l generalizing k i with
 |nil=>simp at hk
 |cons a l ih=>
  cases k with
  |zero=>simp only[List.getElem_cons_zero]at ha;simp[jz,ha]
  |succ k=>
   simp only[List.take_succ_cons,jz,List.getElem_cons_succ]at h ha |-
   cases hb:kG a with
   |false=>rw[hb]at h;cases h
   |true=>
    rw[hb]at h
    simp only[cond_true]at h |-
    rw[ih (by simpa using hk) h ha]
    congr 1;omega
def nA(p:Prod):Int×Int:=
 match dB (dI p.conds 0 0)with
 |some (a,e)=>(a,e)
 |none=>match jz 0 p.bp with
  |some i=>(((aj p.conds+i:Nat):Int),9)
  |none=>(-1,0)
def dF(p:Prod):Int×Int:=
 bif !kL p.name then(-1,2)else
 bif decide (aj p.conds<1)||(decide (16<aj p.conds)||(decide (p.bp.length<1)||decide (16<p.bp.length)))then(-1,7)else nA p
theorem Jt{p:Prod}{a:Nat}{e:Int}(h:dB (dI p.conds 0 0)=some (a,e)):nA p=((a:Int),e):=by simp only[nA,h]
theorem Ju{p:Prod}{i:Nat}(h:dB (dI p.conds 0 0)=none)(h2:jz 0 p.bp=some i):nA p=(((aj p.conds+i:Nat):Int),9):=by simp only[nA,h,h2]
theorem FL{p:Prod}(h:dB (dI p.conds 0 0)=none)(h2:jz 0 p.bp=none):nA p=(-1,0):=by simp only[nA,h,h2]
theorem tQ{l:List (Nat×Nat×ae)}{a:Nat}{e:Int}(h:dB l=some (a,e)):e≠0:=by
 induction l with
 |nil=>cases h
 |cons x l ih=>
  obtain⟨p,d,c⟩:=x
  simp only[dB]at h
  cases hc:bQ c d == 0 with
  |true=>rw[hc]at h;exact ih h
  |false=>
   rw[hc]at h
   simp only[cond_false,Option.some.injEq,Prod.mk.injEq]at h
   rw[<- h.2];simpa using hc
theorem KJ{l:List (Nat×Nat×ae)}{k:Nat}{x:Nat×Nat×ae}(hx:l[k]?=some x)(h:dB (l.take k)=none):dB (l.take (k+1))=(bif bQ x.2.2 x.2.1 == 0 then none else some (x.1,bQ x.2.2 x.2.1)):=by
 rw[List.take_add_one,gR,h,hx]
 obtain⟨a,d,c⟩:=x
 simp[dB]
theorem KK{l:List (Nat×Nat×ae)}{k:Nat}{r:Nat×Int}(h:dB (l.take k)=some r):dB l=some r:=by
 have:=gR (l.take k) (l.drop k)
 rw[List.take_append_drop,h]at this
 exact this
theorem Pe(s:Sym):Pure prog 284 [.agg s.pv] (pB (uT s)):=ao.of (IF.c rfl)
theorem Vt(a:Atom):Pure prog 250 [.agg a.pv] (pB (wg a)):=by
 refine ao.of (Fp.c ?_)
 refine ab.mk (λh=>(Pe a.sym).call ⟨_,rfl,?_⟩) (λh=>?_)<;>simp_all [wg,wk,cH]
theorem Ns(s:Sym):Pure prog 285 [.agg s.pv] (pB (nX s)):=by
 refine ao.of (Aj.c ?_)
 refine ab.mk (λh=>(Ij s).call ⟨_,rfl,?_⟩) (λh=>?_)<;>simp_all [nX,wk,cH]
theorem Pn(a:Atom):Pure prog 247 [.agg a.pv] (pB (kU a)):=by
 refine ao.of (IH.c ?_)
 refine ab.mk (λh=>(GK a.var).call ⟨_,rfl,ab.mk (λh2=>(Pe a.sym).call ⟨_,rfl,?_⟩) (λh2=>?_)⟩) (λh=>(Ns a.sym).call ⟨_,rfl,?_⟩)<;>simp_all [kU,uT,wk,cH]
theorem ta(a:Atom):Pure prog 203 [.agg a.pv] (pB (kU a)):=by
 refine ao.of (wU.c ?_)
 refine ab.mk (λh=>(sZ a.var).call ⟨_,rfl,ab.mk (λh2=>?_) (λh2=>?_)⟩) (λh=>(zU a.sym).call ⟨_,rfl,?_⟩)<;>simp_all [kU,uT,wk,cH]
theorem Cd{T:Type}{f:FuncId}{p:T->Bool}{l:List T}{n:Nat}{body:(Int->Mem->Prop)->Int->Mem->Prop}{u:Mem}(hl:l.length=n)(hn:n<9223372036854775808)(cm:l.all p=false->∀u next,False->body next 0 u)
  (gG:∀(k:Nat) (hk:k<l.length) (u:Mem) (next:Int->Mem->Prop),(p l[k]=true->∀u',next (IntKind.wrap .i64 ((k:Int)+1)) u')->(p l[k]=false->l.all p=false)->body next (k:Int) u) (gM:∀(u:Mem) (next:Int->Mem->Prop),l.all p=true->body next (n:Int) u):ak body 0 u:=by
 refine ak.each (n:=n) hn (λk u=>(l.take k).all p=true) (by simp) ?_ ?_
 ·intro k u next hk hg ar
  have bW:k<l.length:=by omega
  exact gG k bW u next (λhp u'=>ar u' (by rw[Iu bW hg];exact hp)) (λhp=>Iv bW hp)
 ·intro u next hg
  rw[<- hl,List.take_length]at hg
  exact gM u next hg
theorem afV(fl:Fl)(t:Test)(ht:t.list.length<=1000000):Pure prog 283 [.agg [pI t.rel,pS t.var,pI t.sym.k,pS t.sym.t,pI t.sym.n,.list 3 fl (t.list.map Sym.pv)]] (pB (eQ t)):=by
 refine ao.of (ID.c ?_)
 refine ab.mk (λh8=>?_) (λh8=>?_)
 ·refine ab.mk (λh1=>?_) (λh1=>(Pe t.sym).call ⟨_,rfl,ab.mk (λh2=>?_) (λh2=>ab.mk (λh3=>?_) (λh3=>ab.mk (λh4=>?_) (λh4=>?_)))⟩)
  ·simp[eQ,h8,nb h1,wk,cH]
  ·simp[eQ,h8,nb h2,wk,cH]
  ·have:¬1<=t.list.length:=by simp at h3;omega
   simp[eQ,h8,this,wk,cH]
  ·have:¬t.list.length<=8:=by simp at h4;omega
   simp[eQ,h8,this,wk,cH]
  ·have e3:1<=t.list.length:=by simp at h3;omega
   have e4:t.list.length<=8:=by simp at h4;omega
   have hb:eQ t=t.list.all nX:=by simp[eQ,h8,nt h1,nt h2,e3,e4]
   rw[hb]
   refine Cd (p:=nX) (l:=t.list) (f:=0) rfl (by omega) (λ_ _ _ h=>h.elim) (λk hk u next hy cm=>?_) (λu next ha=>ab.f (by simp) (by rw[ha];rfl))
   refine ab.t (by simpa using hk) ⟨by omega,_,aw hk,_,_,_,rfl,(Ns t.list[k]).call ⟨_,rfl,ab.mk (λa=>?_) (λa=>hy (by simpa using a) _)⟩⟩
   rw[cm (by simpa using a)];rfl
 ·refine ab.mk (λh1=>?_) (λh1=>ab.mk (λh2=>?_) (λh2=>ab.mk (λh3=>?_) (λh3=>?_)))
  ·have:¬1<=t.rel:=by simp at h1;omega
   simp[eQ,h8,this,wk,cH]
  ·have:¬t.rel<=7:=by simp at h2;omega
   simp[eQ,h8,this,wk,cH]
  ·have:¬t.list.length=0:=by simp at h3;omega
   simp[eQ,h8,this,wk,cH]
  ·have e1:1<=t.rel:=by simp at h1;omega
   have e2:t.rel<=7:=by simp at h2;omega
   have e3:t.list.length=0:=by simpa using h3
   have hb:eQ t=kU ⟨t.var,t.sym⟩:=by simp[eQ,h8,e1,e2,e3]
   rw[hb]
   refine ab.mk (λh=>(GK t.var).call ⟨_,rfl,ab.mk (λh2=>(Pe t.sym).call ⟨_,rfl,?_⟩) (λh2=>?_)⟩) (λh=>(Ns t.sym).call ⟨_,rfl,?_⟩)<;>simp_all [kU,uT,wk,cH]
theorem Vg(fl:Fl)(t:Test)(ht:t.list.length<=1000000):Pure prog 287 [.agg [pI t.rel,pS t.var,pI t.sym.k,pS t.sym.t,pI t.sym.n,.list 3 fl (t.list.map Sym.pv)]] (pB (eQ t)):=by
 refine ao.of (wQ.c ?_)
 refine ab.mk (λh8=>?_) (λh8=>?_)
 ·refine ab.mk (λh1=>?_) (λh1=>ab.mk (λh2=>?_) (λh2=>ab.mk (λh3=>?_) (λh3=>ab.mk (λh4=>?_) (λh4=>?_))))
  ·simp_all [eQ,wk,cH]
  ·have:uT t.sym=false:=nb h2
   simp[eQ,h8,this,wk,cH]
  ·have:¬1<=t.list.length:=by simp at h3;omega
   simp[eQ,h8,this,wk,cH]
  ·have:¬t.list.length<=8:=by simp at h4;omega
   simp[eQ,h8,this,wk,cH]
  ·have e2:uT t.sym=true:=nt h2
   have e3:1<=t.list.length:=by simp at h3;omega
   have e4:t.list.length<=8:=by simp at h4;omega
   have e1:aJ t.var ⟨#[]⟩=true:=by simpa using h1
   have hb:eQ t=t.list.all nX:=by simp[eQ,h8,e1,e2,e3,e4]
   rw[hb]
   refine Cd (p:=nX) (l:=t.list) (f:=0) rfl (by omega) (λ_ _ _ h=>h.elim) (λk hk u next hy cm=>?_) (λu next ha=>ab.f (by simp) (by rw[ha];rfl))
   refine ab.t (by simpa using hk) ⟨by omega,_,aw hk,_,_,_,rfl,(zU t.list[k]).call ⟨_,rfl,ab.mk (λa=>?_) (λa=>hy (by simpa using a) _)⟩⟩
   rw[cm (by simpa using a)];rfl
 ·refine ab.mk (λh1=>ab.mk (λh2=>ab.mk (λh3=>(ta ⟨t.var,t.sym⟩).call ⟨_,rfl,?_⟩) (λh3=>?_)) (λh2=>?_)) (λh1=>?_)
  ·have e3:t.list.length=0:=by simpa using h3
   have e1:1<=t.rel:=by simpa using h1
   have e2:t.rel<=7:=by simpa using h2
   simp[eQ,h8,e1,e2,e3,wk,cH]
  ·have e3:¬t.list.length=0:=by simpa using h3
   simp[eQ,h8,e3,wk,cH]
  ·have e2:¬t.rel<=7:=by simpa using h2
   simp[eQ,h8,e2,wk,cH]
  ·have e1:¬1<=t.rel:=by simpa using h1
   simp[eQ,h8,e1,wk,cH]
theorem UZ(fl:Fl)(l:List Test)(hl:l.length<=1000000)(ht:∀t∈l,t.list.length<=1000000):Pure prog 246 [.list 6 fl (l.map Test.pv)] (pB (l.all eQ)):=by
 refine ao.of (Fm.c ?_)
 refine Cd (p:=eQ) (l:=l) (f:=0) rfl (by omega) (λ_ _ _ h=>h.elim) (λk hk u next hy cm=>?_) (λu next ha=>ab.f (by simp) (by rw[ha];rfl))
 refine ab.t (by simpa using hk) ⟨by omega,_,aw hk,_,_,_,_,_,_,_,rfl,(afV .sh l[k] (ht _ (List.getElem_mem hk))).call ⟨_,rfl,ab.mk (λa=>?_) (λa=>hy (by simpa using a) _)⟩⟩
 rw[cm (by simpa using a)];rfl
theorem GL(fl:Fl)(l:List Test)(hl:l.length<=1000000)(ht:∀t∈l,t.list.length<=1000000):Pure prog 259 [.list 6 fl (l.map Test.pv)] (pB (l.all eQ)):=by
 refine ao.of (uD.c ?_)
 refine Cd (p:=eQ) (l:=l) (f:=0) rfl (by omega) (λ_ _ _ h=>h.elim) (λk hk u next hy cm=>?_) (λu next ha=>ab.f (by simp) (by rw[ha];rfl))
 refine ab.t (by simpa using hk) ⟨by omega,_,aw hk,_,_,_,_,_,_,_,rfl,(Vg .sh l[k] (ht _ (List.getElem_mem hk))).call ⟨_,rfl,ab.mk (λa=>?_) (λa=>hy (by simpa using a) _)⟩⟩
 rw[cm (by simpa using a)];rfl
theorem UU(a:Atom):Pure prog 286 [.agg a.pv] (pB (FC a)):=by
 refine ao.of (IC.c ?_)
 refine ab.mk (λh=>?_) (λh=>?_)<;>simp_all [FC,wk,cH]
theorem ach(k:Int):Pure prog 249 [pI k] (pB (CR k)):=by
 refine ao.of (Fo.c ?_)
 refine ab.mk (λh=>?_) (λh=>ab.mk (λh2=>?_) (λh2=>?_))<;>simp[CR,wk,cH, *]
theorem afW(t:Term):Pure prog 248 [.agg t.pv] (pB (nq t)):=by
 refine ao.of (IE.c ?_)
 refine ab.mk (λh=>?_) (λh=>ab.mk (λh2=>?_) (λh2=>(Pn t.a).call ⟨_,rfl,ab.mk (λh3=>?_) (λh3=>ab.mk (λh4=>(Vt t.b).call ⟨_,rfl,?_⟩)
  (λh4=>(Pn t.b).call ⟨_,rfl,ab.mk (λh5=>(UU t.a).call ⟨_,rfl,ab.mk (λh6=>(UU t.b).call ⟨_,rfl,?_⟩) (λh6=>?_)⟩) (λh5=>?_)⟩))⟩))
 ·have:¬0<=t.op:=by simp at h;omega
  simp[nq,this,wk,cH]
 ·have:¬t.op<=3:=by simp at h2;omega
  simp[nq,this,wk,cH]
 all_goals
  have e1:0<=t.op:=by simp at h;omega
  have e2:t.op<=3:=by simp at h2;omega
  grind [nq,wk,cH]
theorem akd(a:dh):Pure prog 192 [.agg a.pv] (pB (kG a)):=by
 refine ao.of (Lu.c ?_)
 refine(GK a.id).call ⟨_,rfl,ab.mk (λh1=>?_) (λh1=>(Pn a.attr).call ⟨_,rfl,ab.mk (λh2=>?_) (λh2=>(afW a.value).call ⟨_,rfl,ab.mk (λh3=>?_) (λh3=>ab.mk (λh4=>?_) (λh4=>ab.mk (λh5=>?_)
  (λh5=>(ach a.sy).call ⟨_,rfl,ab.mk (λh6=>(Pn a.other).call ⟨_,rfl,?_⟩) (λh6=>(Vt a.other).call ⟨_,rfl,?_⟩)⟩)))⟩)⟩)⟩
 ·simp_all [kG,wk,cH]
 ·simp_all [kG,wk,cH]
 ·simp_all [kG,wk,cH]
 ·have:¬1<=a.sy:=by simp at h4;omega
  simp[kG,this,wk,cH]
 ·have:¬a.sy<=10:=by simp at h5;omega
  simp[kG,this,wk,cH]
 all_goals
  have e1:1<=a.sy:=by simp at h4;omega
  have e2:a.sy<=10:=by simp at h5;omega
  simp_all [kG,wk,cH]
theorem tY{a:Atom}(h:kU a=true):(a.sym.k == 3)=FC a:=by
 unfold kU at h
 unfold FC
 cases hv:aJ a.var ⟨#[]⟩with
 |true=>simp
 |false=>
  rw[hv]at h
  simp only[cond_false,Bool.and_eq_true,uT]at h
  have:a.sym.k=0:=by simpa using h.2.1
  simp[this]
theorem Yt(a:dh):Pure prog 138 [.agg a.pv] (pB (kG a)):=by
 refine ao.of (yT.c ?_)
 refine(sZ a.id).call ⟨_,rfl,ab.mk (λh1=>?_) (λh1=>(ta a.attr).call ⟨_,rfl,ab.mk (λh2=>?_) (λh2=>(ta a.value.a).call ⟨_,rfl,ab.mk (λh3=>?_) (λh3=>ab.mk (λh4=>?_) (λh4=>ab.mk (λh5=>?_) (λh5=>ab.mk (λh6=>?_) (λh6=>ab.mk (λh7=>?_) (λh7=>?_)))))⟩)⟩)⟩
 ·simp_all [kG,wk,cH]
 ·simp_all [kG,wk,cH]
 ·simp_all [kG,nq,wk,cH]
 ·have:¬0<=a.value.op:=by simp at h4;omega
  simp[kG,nq,this,wk,cH]
 ·have:¬a.value.op<=3:=by simp at h5;omega
  simp[kG,nq,this,wk,cH]
 ·have:¬1<=a.sy:=by simp at h6;omega
  simp[kG,this,wk,cH]
 ·have:¬a.sy<=10:=by simp at h7;omega
  simp[kG,this,wk,cH]
 ·have e4:0<=a.value.op:=by simp at h4;omega
  have e5:a.value.op<=3:=by simp at h5;omega
  have e6:1<=a.sy:=by simp at h6;omega
  have e7:a.sy<=10:=by simp at h7;omega
  have e1:kL a.id=true:=by simpa using h1
  have e2:kU a.attr=true:=by simpa using h2
  have e3:kU a.value.a=true:=by simpa using h3
  refine⟨λ_ _=>nq a.value=true,?_,?_⟩
  ·refine ab.mk (λa1=>ab.mk (λa2=>?_) (λa2=>?_)) (λa1=>(ta a.value.b).call ⟨_,rfl,ab.mk (λa2=>?_) (λa2=>ab.mk (λa3=>?_) (λa3=>ab.mk (λa4=>?_) (λa4=>?_)))⟩)
   ·have:wg a.value.b=false:=nb a2
    simp[kG,nq,a1,this,wk,cH]
   ·have:wg a.value.b=true:=nt a2
    simp[nq,e4,e5,e3,a1,this]
   ·have:kU a.value.b=false:=by simpa using a2
    simp[kG,nq,a1,this,wk,cH]
   ·rw[tY e3]at a3
    simp[kG,nq,a1,a3,wk,cH]
   ·have b1:kU a.value.b=true:=by simpa using a2
    rw[tY b1]at a4
    simp[kG,nq,a1,a4,wk,cH]
   ·have b1:kU a.value.b=true:=by simpa using a2
    rw[tY e3]at a3
    rw[tY b1]at a4
    simp[nq,e4,e5,e3,a1,a3,a4,b1]
  ·rintro _ u ht
   have ho:CR a.sy=decide (a.sy>=8):=by
    simp only[CR]
    rw[Bool.eq_iff_iff]
    simp;omega
   refine ab.mk (λa1=>(ta a.other).call ⟨_,rfl,?_⟩) (λa1=>?_)
   ·simp[kG,e1,e2,ht,e6,e7,ho,a1,wk,cH]
   ·have:wg a.other=(aJ a.other.var ⟨#[]⟩&&((a.other.sym.k == 0)&&(aJ a.other.sym.t ⟨#[]⟩&&((a.other.sym.n == 0)&&true)))):=rfl
    simp only[kG,e1,e2,ht,e6,e7,ho,a1,this,wk,cH]
    simp
theorem BZ{n:Nat}{b:Bool}(h:decide (((n:Nat):Int)>0)=b):decide (0<n)=b:=by rw[<- h];simp
theorem I_{n:Nat}{b:Bool}(h:(((n:Nat):Int) == 0)=b):decide (n=0)=b:=by
 rw[<- h,Bool.eq_iff_iff];simp
theorem IZ{n:Nat}{b:Bool}(h:decide (((n:Nat):Int)>4)=b):decide (4<n)=b:=by
 rw[<- h,Bool.eq_iff_iff];simp;omega
theorem acs(c:ae)(deep:Int)(hl:cr c):Pure prog 191 [.agg c.pv,pI deep] (pI (bQ c deep)):=by
 obtain⟨_,ha,hv,IX,MM,_⟩:=(bu c).1 hl
 rw[ae.cP]
 refine ao.of (IG.c ?_)
 have e3:c.kind == 3->c.kind=3:=λh=>by simpa using h
 refine⟨λ_ _=>(c.kind == 3)=false/\((c.kind == 1)||(c.kind == 2))=true,?_,?_⟩
 ·refine ab.mk (λh3=>?_) (λh3=>?_)
  ·refine ab.mk (λh=>?_) (λh=>ab.mk (λh1=>?_) (λh1=>ab.mk (λh2=>?_) (λh2=>ab.mk (λh4=>?_) (λh4=>ab.mk (λh5=>?_) (λh5=>ab.mk (λh6=>?_) (λh6=>ab.mk (λh7=>?_) (λh7=>?_)))))))
   ·simp[bQ,h3,h,wk,cH]
   ·simp[bQ,h3,nb h1,wk,cH]
   ·rw[List.length_map]at h2;simp only[bQ,h3,BZ h2,wk,cH];simp
   ·rw[List.length_map]at h4;simp only[bQ,h3,BZ h4,wk,cH];simp
   ·simp[bQ,h3,h5,wk,cH]
   ·rw[List.length_map]at h6;simp only[bQ,h3,I_ h6,wk,cH];simp
   ·rw[List.length_map]at h2 h4 h6
    have:decide (3<=deep)=true:=h7
    simp only[bQ,h3,h,nt h1,BZ h2,BZ h4,h5,I_ h6,this,wk,cH];rfl
   ·rw[List.length_map]at h2 h4 h6
    have:decide (3<=deep)=false:=h7
    simp only[bQ,h3,h,nt h1,BZ h2,BZ h4,h5,I_ h6,this,wk,cH];rfl
  ·refine ab.mk (λh1=>ab.mk (λh2=>⟨h3,by simp[h1]⟩) (λh2=>by rw[h1]at h2;cases h2)) (λh1=>ab.mk (λh2=>⟨h3,by simp[h2]⟩) (λh2=>?_))
   simp[bQ,h3,h1,h2,wk,cH]
 ·rintro _ u ⟨h3,mw⟩
  refine ab.mk (λh=>?_) (λh=>(GK c.id).call ⟨_,rfl,ab.mk (λh1=>?_) (λh1=>ab.mk (λh2=>?_) (λh2=>ab.mk (λh4=>?_) (λh4=>ab.mk (λh5=>?_) (λh5=>(UZ .sh c.attr (by omega) (cI IX)).call ⟨_,rfl,ab.mk (λh6=>?_) (λh6=>(UZ .sh c.value (by omega) (cI MM)).call ⟨_,rfl,ab.mk (λh7=>?_) (λh7=>?_)⟩)⟩))))⟩)
  ·rw[List.length_map]at h;simp only[bQ,h3,mw,BZ h,wk,cH];rfl
  ·simp only[bQ,h3,mw,nb h1,wk,cH];simp
  ·rw[List.length_map]at h2;simp only[bQ,h3,mw,I_ h2,wk,cH];simp
  all_goals rw[List.length_map]at h h2 h4
  ·simp only[bQ,h3,mw,BZ h,nt h1,I_ h2,IZ h4,wk,cH];simp
  all_goals rw[List.length_map]at h5
  ·simp only[bQ,h3,mw,BZ h,nt h1,I_ h2,IZ h4,IZ h5,wk,cH];simp
  ·simp only[bQ,h3,mw,BZ h,nt h1,I_ h2,IZ h4,IZ h5,nb h6,wk,cH];simp
  ·simp only[bQ,h3,mw,BZ h,nt h1,I_ h2,IZ h4,IZ h5,nt h6,nb h7,wk,cH];simp
  ·simp only[bQ,h3,mw,BZ h,nt h1,I_ h2,IZ h4,IZ h5,nt h6,nt h7,wk,cH];simp
theorem Rf(c:ae)(deep:Int)(hl:cr c):Pure prog 202 [.agg c.pv,pI deep] (pI (bQ c deep)):=by
 obtain⟨_,ha,hv,IX,MM,_⟩:=(bu c).1 hl
 rw[ae.cP]
 refine ao.of (wT.c ?_)
 refine ab.mk (λk1=>?_) (λk1=>ab.mk (λk2=>?_) (λk2=>ab.mk (λh3=>?_) (λh3=>?_)))
 ·have a1:(c.kind == 3)=false:=by simp at k1 |-;omega
  have a2:((c.kind == 1)||(c.kind == 2))=false:=by simp at k1 |-;omega
  simp only[bQ,a1,a2,wk,cH];rfl
 ·have a1:(c.kind == 3)=false:=by simp at k2 |-;omega
  have a2:((c.kind == 1)||(c.kind == 2))=false:=by simp at k2 |-;omega
  simp only[bQ,a1,a2,wk,cH];rfl
 ·refine ab.mk (λh=>?_) (λh=>ab.mk (λh1=>?_) (λh1=>ab.mk (λh2=>?_) (λh2=>ab.mk (λh4=>?_) (λh4=>ab.mk (λh5=>?_) (λh5=>ab.mk (λh6=>?_) (λh6=>ab.mk (λh7=>?_) (λh7=>?_)))))))
  ·simp[bQ,h3,h,wk,cH]
  ·simp[bQ,h3,nb h1,wk,cH]
  ·rw[List.length_map]at h2;simp only[bQ,h3,BZ h2,wk,cH];simp
  ·rw[List.length_map]at h4;simp only[bQ,h3,BZ h4,wk,cH];simp
  ·simp[bQ,h3,h5,wk,cH]
  ·rw[List.length_map]at h6;simp only[bQ,h3,I_ h6,wk,cH];simp
  ·rw[List.length_map]at h2 h4 h6
   have:decide (3<=deep)=true:=h7
   simp only[bQ,h3,h,nt h1,BZ h2,BZ h4,h5,I_ h6,this,wk,cH];rfl
  ·rw[List.length_map]at h2 h4 h6
   have:decide (3<=deep)=false:=h7
   simp only[bQ,h3,h,nt h1,BZ h2,BZ h4,h5,I_ h6,this,wk,cH];rfl
 ·have mw:((c.kind == 1)||(c.kind == 2))=true:=by simp at k1 k2 h3 |-;omega
  refine ab.mk (λh=>?_) (λh=>(sZ c.id).call ⟨_,rfl,ab.mk (λh1=>?_) (λh1=>ab.mk (λh2=>?_) (λh2=>ab.mk (λh4=>?_) (λh4=>ab.mk (λh5=>?_) (λh5=>(GL .sh c.attr (by omega) (cI IX)).call ⟨_,rfl,ab.mk (λh6=>?_) (λh6=>(GL .sh c.value (by omega) (cI MM)).call ⟨_,rfl,ab.mk (λh7=>?_) (λh7=>?_)⟩)⟩))))⟩)
  ·rw[List.length_map]at h;simp only[bQ,h3,mw,BZ h,wk,cH];rfl
  ·simp only[bQ,h3,mw,nb h1,wk,cH];simp
  ·rw[List.length_map]at h2;simp only[bQ,h3,mw,I_ h2,wk,cH];simp
  all_goals rw[List.length_map]at h h2 h4
  ·simp only[bQ,h3,mw,BZ h,nt h1,I_ h2,IZ h4,wk,cH];simp
  all_goals rw[List.length_map]at h5
  ·simp only[bQ,h3,mw,BZ h,nt h1,I_ h2,IZ h4,IZ h5,wk,cH];simp
  ·simp only[bQ,h3,mw,BZ h,nt h1,I_ h2,IZ h4,IZ h5,nb h6,wk,cH];simp
  ·simp only[bQ,h3,mw,BZ h,nt h1,I_ h2,IZ h4,IZ h5,nt h6,nb h7,wk,cH];simp
  ·simp only[bQ,h3,mw,BZ h,nt h1,I_ h2,IZ h4,IZ h5,nt h6,nt h7,wk,cH];simp
theorem s_:∀(n:Nat) (fl:Fl) (l:List ae),aj l<=n->aj l<=1000000->Pure prog 80 [.list 7 fl (l.map ae.pv)] (pI (aj l:Nat)):=by
 intro n
 induction n with
 |zero=>
  intro fl l h _
  have:l=[]:=by
   cases l with
   |nil=>rfl
   |cons c l=>simp[aj,bM]at h
  subst this
  refine ao.of (oe.c ?_)
  exact ak.dm (n:=0) (by omega) (λk x u=>x=0) rfl (λk x u next hk=>by omega) (λx u next hx=>by subst hx;exact ab.f (by simp) rfl)
 |succ n ih=>
  intro fl l h h6
  refine ao.of (oe.c ?_)
  have sM:=ch l
  refine ak.dm (n:=l.length) (by omega) (λk x u=>x=((aj (l.take k):Nat):Int)) (by simp[aj]) ?_ ?_
  ·rintro k _ u next hk rfl ar
   have hm:=eM (List.getElem_mem hk)
   have hs:=lH l (k+1)
   rw[fY hk]at hs
   refine ab.t (by simpa using hk) ⟨by omega,_,aw hk,.sh,l[k].conds.map ae.pv,by rw[ae.cP];rfl,(ih .sh l[k].conds (by omega) (by omega)).call ⟨_,rfl,?_⟩⟩
   dsimp only
   rw[az (x:=(1:Int)+_) (by omega) (by omega),az (x:=((aj (l.take k):Nat):Int)+_) (by omega) (by omega)]
   exact ar _ _ (by rw[fY hk];omega)
  ·rintro _ u next rfl
   refine ab.f (by simp) ?_
   rw[List.take_length];rfl
def wm(l:List ae)(a d:Nat):PV:=match dB (dI l a d)with
 |some (x,e)=>.aD [pI (x:Nat),pI e]
 |none=>.aD [pI (-1),pI 0]
theorem Re:∀(n:Nat) (fl:Fl) (l:List ae) (a d:Nat),aj l<=n->bD l->a+aj l<=1000000->d+aj l<=1000000->Pure prog 137 [.list 7 fl (l.map ae.pv),pI (a:Nat),pI (d:Nat)] (wm l a d):=by
 intro n
 induction n with
 |zero=>
  intro fl l a d h _ _ _
  have:l=[]:=by
   cases l with
   |nil=>rfl
   |cons c l=>simp[aj,bM]at h
  subst this
  refine ao.of (mE.c ?_)
  exact ak.dm (n:=0) (by omega) (λk x u=>True) trivial (λk x u next hk=>by omega) (λx u next hx=>ab.f (by simp) rfl)
 |succ n ih=>
  intro fl l a d h cz ha hd
  refine ao.of (mE.c ?_)
  have sM:=ch l
  refine ak.dm (n:=l.length) (by omega) (λk x u=>x=((a+aj (l.take k):Nat):Int)/\dB (dI (l.take k) a d)=none) ⟨by simp[aj],rfl⟩ ?_ ?_
  ·rintro k _ u next hk ⟨rfl,hf⟩ ar
   have hm:=eM (List.getElem_mem hk)
   have hs:=lH l (k+1)
   rw[fY hk]at hs
   have HM:=bH.1 cz _ (List.getElem_mem hk)
   have cZ:=Oj hk a d
   refine ab.t (by simpa using hk) ⟨by omega,_,aw hk,_,_,_,_,_,_,_,_,_,_,by rw[ae.cP];rfl,?_⟩
   have hc:=Rf l[k] d HM
   rw[ae.cP]at hc
   refine hc.call ⟨_,rfl,ab.mk (λh1=>?_) (λh1=>?_)⟩
   ·have h1:(bQ l[k] d == 0)=false:=by simpa using h1
    have:dB (dI l a d)=some (a+aj (l.take k),bQ l[k] d):=by
     rw[cZ,List.append_assoc,gR,hf,Option.none_or,List.cons_append,dB,h1];rfl
    simp only[wm,this];rfl
   ·have h1:(bQ l[k] d == 0)=true:=by simpa using h1
    refine⟨by omega,_,aw hk,.sh,l[k].conds.map ae.pv,by rw[ae.cP];rfl,?_⟩
    have ihk:=ih .sh l[k].conds (a+aj (l.take k)+1) (d+1) (by omega) ((bu _).1 HM).2.2.2.2.2 (by omega) (by omega)
    rw[az (by omega) (by omega),az (by omega) (by omega)]
    refine ihk.call ?_
    cases ZN:dB (dI l[k].conds (a+aj (l.take k)+1) (d+1))with
    |some r=>
     obtain⟨x,e⟩:=r
     have aT:=tQ ZN
     have:dB (dI l a d)=some (x,e):=by
      rw[cZ,List.append_assoc,gR,hf,Option.none_or,List.cons_append,dB,h1,cond_true,gR,ZN];rfl
     simp only[wm,ZN,this]
     exact⟨_,_,rfl,ab.t (by simpa using aT) rfl⟩
    |none=>
     simp only[wm,ZN]
     refine⟨_,_,rfl,ab.f rfl ⟨by omega,_,aw hk,.sh,l[k].conds.map ae.pv,by rw[ae.cP];rfl,(s_ _ .sh l[k].conds (Nat.le_refl _) (by omega)).call ⟨_,rfl,?_⟩⟩⟩
     rw[az (x:=(1:Int)+_) (by omega) (by omega),az (x:=((a+aj (l.take k):Nat):Int)+_) (by omega) (by omega)]
     refine ar _ _ ⟨by rw[fY hk];omega,?_⟩
     rw[FX hk,gR,hf,Option.none_or,dB,h1,cond_true]
     exact ZN
  ·rintro _ u next ⟨rfl,hf⟩
   refine ab.f (by simp) ?_
   rw[List.take_length]at hf
   simp only[wm,hf];rfl
theorem OZ(fy:Fn)(ya yb:List PV)(hy:DI fy True)(I:Nat->Mem->Prop)(S:Mem->Prop):∀(n:Nat) (fl:Fl) (l:List ae) (a d j:Nat) (μ:Mem),aj l<=n->a+aj l<=1000000->d+aj l<=1000000->I j μ->
  (∀(k:Nat) (x:Nat×Nat×ae) (μ:Mem),(dI l a d)[k]?=some x->I (j+k) μ->bY prog (.fn fy ya yb) [pI (x.1:Nat),pI (x.2.1:Nat),.agg x.2.2.pv] μ λv μ'=>(v=pB true/\I (j+k+1) μ')\/(v=pB false/\S μ'))->
  aa prog 188 [.list 7 fl (l.map ae.pv),pI (a:Nat),pI (d:Nat),.fn fy ya yb] μ λp μ'=>(p=.aD [pI ((a+aj l:Nat):Int),pB true]/\I (j+aj l) μ')\/∃x:Int,p=.aD [pI x,pB false]/\S μ':=by
 intro n
 induction n with
 |zero=>
  intro fl l a d j μ h _ _ hI _
  have:l=[]:=by
   cases l with
   |nil=>rfl
   |cons c l=>simp[aj,bM]at h
  subst this
  refine yH.c ?_
  exact ak.dm (n:=0) (by omega) (λk x u=>x=(a:Int)/\I j u) ⟨rfl,hI⟩ (λk x u next hk=>by omega) (λx u next hx=>by obtain⟨rfl,hx⟩:=hx;exact ab.f (by simp) (.inl ⟨rfl,hx⟩))
 |succ n ih=>
  intro fl l a d j μ h ha hd hI df
  refine yH.c ?_
  have sM:=ch l
  refine ak.dm (n:=l.length) (by omega) (λk x u=>x=((a+aj (l.take k):Nat):Int)/\I (j+aj (l.take k)) u) ⟨by simp[aj],by simpa[aj]using hI⟩ ?_ ?_
  ·rintro k _ u next hk ⟨rfl,ZX⟩ ar
   have hm:=eM (List.getElem_mem hk)
   have hs:=lH l (k+1)
   rw[fY hk]at hs
   have cZ:=Oj hk a d
   have ow:=p_ (l.take k) a d
   refine ab.t (by simpa using hk) ⟨by omega,_,aw hk,_,_,_,_,_,_,_,_,_,_,by rw[ae.cP];rfl,?_⟩
   have h0:=df (aj (l.take k)) (a+aj (l.take k),d,l[k]) u (by
    rw[cZ,List.append_assoc,List.getElem?_append_right (by omega),ow];simp) ZX
   rw[ae.cP]at h0
   refine h0.mono ?_
   rintro v μ1 (⟨rfl,nh⟩|⟨rfl,hS⟩)
   ·refine⟨_,rfl,ab.f rfl ?_⟩
    rw[az (by omega) (by omega),az (by omega) (by omega)]
    have ihk:=ih .sh l[k].conds (a+aj (l.take k)+1) (d+1) (j+aj (l.take k)+1) μ1 (by omega) (by omega) (by omega) nh (λk' x μ' hx eU=>by
     have hlen:=p_ l[k].conds (a+aj (l.take k)+1) (d+1)
     have bW:k'<aj l[k].conds:=by rw[<- hlen];exact(List.getElem?_eq_some_iff.1 hx).1
     have:=df (aj (l.take k)+1+k') x μ' (by
      rw[cZ,List.append_assoc,List.getElem?_append_right (by omega),ow]
      have:aj (l.take k)+1+k'-aj (l.take k)=k'+1:=by omega
      rw[this,List.cons_append,List.getElem?_cons_succ,List.getElem?_append_left (by omega)]
      exact hx) (by rw[<- Nat.add_assoc,<- Nat.add_assoc];exact eU)
     rw[<- Nat.add_assoc,<- Nat.add_assoc]at this
     exact this)
    refine aa.mono ihk ?_
    rintro v μ2 (⟨rfl,AY⟩|⟨x,rfl,hS⟩)
    ·refine⟨_,_,rfl,ab.f rfl (ar _ _ ⟨by rw[fY hk];omega,?_⟩)⟩
     rw[fY hk,<- Nat.add_assoc,<- Nat.add_assoc];exact AY
    ·exact⟨_,_,rfl,ab.t rfl (.inr ⟨x,rfl,hS⟩)⟩
   ·exact⟨_,rfl,ab.t rfl (.inr ⟨_,rfl,hS⟩)⟩
  ·rintro _ u next ⟨rfl,ZX⟩
   refine ab.f (by simp) (.inl ?_)
   rw[List.take_length]at ZX |-
   exact⟨rfl,ZX⟩
theorem mK{μ:Mem}{b:Nat}{T:TypeId}{p:PV}(h:μ b=some (.cells T [p])):aB μ b 0 1=some [p]:=by simp[aB,h]
theorem LL{μ:Mem}{b:Nat}{T:TypeId}{p q:PV}:(μ.set b (some (.cells T (dN [p] 0 [q])))) b=some (.cells T [q]):=by simp[dN]
theorem Mn{μ:Mem}{b:Nat}{T:TypeId}{p q:PV}:aB (μ.set b (some (.cells T (dN [p] 0 [q])))) b 0 1=some [q]:=mK LL
@[reducible] def Zh(x:Int×Int):PV:=.aD [pI x.1,pI x.2]
theorem Ll{l:List dh}{body:(Int->Mem->Prop)->Int->Mem->Prop}{u:Mem}{A:Mem->Prop}(hl:l.length<=1000000)(h0:A u)
  (gG:∀(k:Nat) (hk:k<l.length) (u:Mem) (next:Int->Mem->Prop),A u->(kG l[k]=true->∀u',A u'->next (IntKind.wrap .i64 ((k:Int)+1)) u')->(kG l[k]=false->jz 0 l=some k)->body next (k:Int) u)
  (gM:∀(u:Mem) (next:Int->Mem->Prop),A u->jz 0 l=none->body next (l.length:Int) u):ak body 0 u:=by
 refine ak.each (n:=l.length) (by omega) (λk u=>A u/\jz 0 (l.take k)=none) ⟨h0,rfl⟩ ?_ ?_
 ·rintro k u next hk ⟨hA,hf⟩ ar
  exact gG k hk u next hA (λha u' AZ=>ar u' ⟨AZ,by rw[KL hk hf,ha];rfl⟩) (λha=>by have:=Nb hk hf ha;simpa using this)
 ·rintro u next ⟨hA,hf⟩
  rw[List.take_length]at hf
  exact gM u next hA hf
theorem Rd(fc fa:Fl)(p:Prod)(hl:bD p.conds)(hs:aj p.conds<=1000000)(ha:p.bp.length<=1000000):Pure prog 78 [.agg [pS p.name,.list 7 fc (p.conds.map ae.pv),.list 19 fa (p.bp.map dh.pv)]] (Zh (dF p)):=by
 refine ao.of (uE.c ?_)
 refine(sZ p.name).call ⟨_,rfl,ab.mk (λh1=>?_) (λh1=>(s_ _ fc p.conds (Nat.le_refl _) hs).call ⟨_,rfl,ab.mk (λh2=>?_) (λh2=>ab.mk (λh3=>?_) (λh3=>ab.mk (λh4=>?_) (λh4=>ab.mk (λh5=>?_) (λh5=>?_))))⟩)⟩
 ·simp[dF,nb h1,wk,cH,Bp]
 all_goals have e1:kL p.name=true:=nt h1
 ·have:aj p.conds<1:=by have:=of_decide_eq_true h2;omega
  simp[dF,e1,this,wk,cH,Bp]
 ·have:16<aj p.conds:=by simp at h3;omega
  simp[dF,e1,this,wk,cH,Bp]
 ·have:p.bp.length<1:=by have:=of_decide_eq_true h4;simp only[List.length_map]at this;omega
  simp[dF,e1,this,wk,cH,Bp]
 ·have:16<p.bp.length:=by simp at h5;omega
  simp[dF,e1,this,wk,cH,Bp]
 ·have e2:¬aj p.conds<1:=by have:=of_decide_eq_false h2;omega
  have e3:¬16<aj p.conds:=by simp at h3;omega
  have e4:¬p.bp.length<1:=by have:=of_decide_eq_false h4;simp only[List.length_map]at this;omega
  have e5:¬16<p.bp.length:=by simp at h5;omega
  refine(Re _ fc p.conds 0 0 (Nat.le_refl _) hl (by omega) (by omega)).call ?_
  have Wh:dF p=nA p:=by simp[dF,e1,e2,e3,e4,e5]
  cases hf:dB (dI p.conds 0 0)with
  |some r=>
   obtain⟨x,e⟩:=r
   have aT:=tQ hf
   simp only[wm,hf]
   refine⟨_,_,rfl,ab.t (by simpa using aT) ?_⟩
   rw[Wh,Jt hf];rfl
  |none=>
   simp only[wm,hf]
   refine⟨_,_,rfl,ab.f rfl ?_⟩
   refine Ll (l:=p.bp) (A:=λ_=>True) ha trivial (λk hk u next _ hy cm=>?_) (λu next _ hfa=>?_)
   ·refine ab.t (by simpa using hk) ⟨by omega,_,aw hk,_,_,_,_,_,_,_,_,_,_,_,_,_,_,_,_,_,_,_,rfl,(Yt p.bp[k]).call ⟨_,rfl,ab.mk (λa=>?_) (λa=>hy (nt a) _ trivial)⟩⟩
    rw[Wh,Ju hf (cm (nb a)),az (by omega) (by omega)]
    simp[wk,cH,Bp]
   ·refine ab.f (by simp) ?_
    rw[Wh,FL hf hfa];rfl
theorem acf(fc fa:Fl)(p:Prod)(hl:bD p.conds)(hs:aj p.conds<=1000000)(ha:p.bp.length<=1000000):Pure prog 128 [.agg [pS p.name,.list 7 fc (p.conds.map ae.pv),.list 19 fa (p.bp.map dh.pv)]] (Zh (dF p)):=by
 refine ao.of (Ft.c ?_)
 refine(GK p.name).call ⟨_,rfl,ab.mk (λh1=>?_) (λh1=>?_)⟩
 ·simp[dF,nb h1,wk,cH,Bp]
 have e1:kL p.name=true:=nt h1
 intro b4 xv
 refine⟨_,_,Mem.aq _ _ _,by simp,?_⟩
 rw[Mem.set_set]
 have ow:=p_ p.conds 0 0
 refine aa.mono (OZ (.func 189) [] [pP b4 0] trivial (λk μ=>μ b4=some (.cells 3 [pI (k:Nat)])/\k<=16) (λμ=>μ b4=some (.cells 3 [pI 17])/\16<aj p.conds) _ fc p.conds 0 0 0 _ (Nat.le_refl _) (by omega) (by omega) ⟨by simp[Mem.aq,dN],by omega⟩ (λk x μ hx hI=>?_)) ?_
 ·rw[Nat.zero_add]at hI |-
  have HJ:=vA _ _ _ _ _ hx
  have hk:k<aj p.conds:=by rw[<- ow];exact(List.getElem?_eq_some_iff.1 hx).1
  show aa _ _ _ _ _
  rw[ae.cP]
  refine BD.c ?_
  refine⟨_,_,hI.1,by simp,_,Mn,?_⟩
  rw[HJ,Nat.zero_add,az (by omega) (by omega)]
  by_cases h16:k+1<=16
  ·exact .inl ⟨by simp;omega,by rw[LL];rfl,h16⟩
  ·have:k=16:=by omega
   subst this
   exact .inr ⟨by simp,by rw[LL];rfl,hk⟩
 rintro v μ1 hv
 have aiD:∃(x:Int) (q:Bool) (m:Nat),v=.aD [pI x,pB q]/\μ1 b4=some (.cells 3 [pI (m:Nat)])/\(m<=16->m=aj p.conds)/\(16<m->16<aj p.conds):=by
  rcases hv with⟨rfl,h1,h2⟩|⟨x,rfl,h1,h2⟩
  ·rw[Nat.zero_add]at h1 h2
   exact⟨_,_,_,rfl,h1,λ_=>rfl,λh=>by omega⟩
  ·exact⟨_,_,17,rfl,h1,λh=>by omega,λ_=>h2⟩
 obtain⟨x,q,m,rfl,AS,uX,ZD⟩:=aiD
 refine⟨_,_,rfl,_,mK AS,ab.mk (λh2=>?_) (λh2=>⟨_,mK AS,ab.mk (λh3=>?_) (λh3=>ab.mk (λh4=>?_) (λh4=>ab.mk (λh5=>?_) (λh5=>?_)))⟩)⟩
 ·have:aj p.conds<1:=by have:=of_decide_eq_true h2;have:=uX (by omega);omega
  simp[dF,e1,this,wk,cH,Bp]
 ·have:16<aj p.conds:=ZD (by simp at h3;omega)
  simp[dF,e1,this,wk,cH,Bp]
 ·have:p.bp.length<1:=by have:=of_decide_eq_true h4;simp only[List.length_map]at this;omega
  simp[dF,e1,this,wk,cH,Bp]
 ·have:16<p.bp.length:=by simp at h5;omega
  simp[dF,e1,this,wk,cH,Bp]
 have BW:m=aj p.conds:=uX (by simp at h3;omega)
 subst BW
 have e2:¬aj p.conds<1:=by have:=of_decide_eq_false h2;omega
 have e3:¬16<aj p.conds:=by simp at h3;omega
 have e4:¬p.bp.length<1:=by have:=of_decide_eq_false h4;simp only[List.length_map]at this;omega
 have e5:¬16<p.bp.length:=by simp at h5;omega
 have Wh:dF p=nA p:=by simp[dF,e1,e2,e3,e4,e5]
 intro b5 ZS b6 HR
 have n54:b5≠b4:=by rintro rfl;rw[AS]at ZS;cases ZS
 have n65:b6≠b5:=by rintro rfl;rw[Mem.aq]at HR;cases HR
 have n64:b6≠b4:=by rintro rfl;rw[Mem.aC _ _ (Ne.symm n54)]at HR;rw[AS]at HR;cases HR
 refine⟨_,_,by rw[Mem.aC _ _ (Ne.symm n65)];exact Mem.aq _ _ _,by simp,?_⟩
 refine⟨_,_,by rw[Mem.aC _ _ n65];exact Mem.aq _ _ _,by simp,?_⟩
 refine aa.mono (OZ (.func 190) [] [pP b6 0,pP b5 0] trivial (λk μ=>μ b4=some (.cells 3 [pI (aj p.conds:Nat)])/\μ b5=some (.cells 3 [pI (-1)])/\μ b6=some (.cells 36 [pI 0])/\dB ((dI p.conds 0 0).take k)=none)
  (λμ=>∃a e,μ b5=some (.cells 3 [pI (a:Nat)])/\μ b6=some (.cells 36 [pI e])/\dB (dI p.conds 0 0)=some (a,e)) _ fc p.conds 0 0 0 _ (Nat.le_refl _) (by omega) (by omega) ?_ (λk x μ hx hI=>?_)) ?_
 ·refine⟨?_,?_,by simp[dN],rfl⟩
  ·rw[Mem.aC _ _ (Ne.symm n64),Mem.aC _ _ (Ne.symm n54),Mem.aC _ _ (Ne.symm n64),Mem.aC _ _ (Ne.symm n54)];exact AS
  ·rw[Mem.aC _ _ (Ne.symm n65),Mem.aq];simp[dN]
 ·rw[Nat.zero_add]at hI |-
  obtain⟨i4,i5,i6,XY⟩:=hI
  have hlx:=vO _ _ _ x hl (List.mem_of_getElem? hx)
  have iB:=KJ hx XY
  show aa _ _ _ _ _
  have hc:=acs x.2.2 x.2.1 hlx
  rw[ae.cP]at hc |-
  refine BC.c (hc.call ⟨_,rfl,_,_,i6,by simp,_,Mn,ab.mk (λh=>?_) (λh=>?_)⟩)
  ·have aT:(bQ x.2.2 x.2.1 == 0)=false:=by simpa using h
   refine⟨_,_,by rw[Mem.aC _ _ (Ne.symm n65)];exact i5,by simp,_,mK (by rw[Mem.aC _ _ n65];exact LL),.inr ⟨by rw[aT],x.1,bQ x.2.2 x.2.1,?_,?_,?_⟩⟩
   ·exact LL
   ·rw[Mem.aC _ _ n65];exact LL
   ·rw[aT]at iB;exact KK iB
  ·have he:(bQ x.2.2 x.2.1 == 0)=true:=by simpa using h
   have RU:bQ x.2.2 x.2.1=0:=by simpa using he
   refine⟨_,Mn,.inl ⟨by rw[he],?_,?_,?_,?_⟩⟩
   ·rw[Mem.aC _ _ (Ne.symm n64)];exact i4
   ·rw[Mem.aC _ _ (Ne.symm n65)];exact i5
   ·rw[LL,RU]
   ·rw[iB,he];rfl
 rintro v μ2 hv
 rcases hv with⟨rfl,i4,i5,i6,XY⟩|⟨x,rfl,a,e,i5,i6,ZN⟩
 ·rw[Nat.zero_add,<- ow,List.take_length]at XY
  refine⟨_,_,rfl,_,mK i6,ab.f rfl ?_⟩
  refine Ll (l:=p.bp) (A:=λμ=>μ b4=some (.cells 3 [pI (aj p.conds:Nat)])) ha i4 (λk hk u next hA hy cm=>?_) (λu next _ hf=>?_)
  ·refine ab.t (by simpa using hk) ⟨by omega,_,aw hk,_,_,_,_,_,_,_,_,_,_,_,_,_,_,_,_,_,_,_,rfl,(akd p.bp[k]).call ⟨_,rfl,ab.mk (λa=>⟨_,mK hA,?_⟩) (λa=>hy (nt a) _ hA)⟩⟩
   rw[Wh,Ju XY (cm (nb a)),az (by omega) (by omega)]
   simp[wk,cH,Bp]
  ·refine ab.f (by simp) ?_
   rw[Wh,FL XY hf];rfl
 ·have aT:=tQ ZN
  refine⟨_,_,rfl,_,mK i6,ab.t (by simpa using aT) ⟨_,mK i5,_,mK i6,?_⟩⟩
  rw[Wh,Jt ZN];rfl
end Go.Proofs.YtbodiiomcfgokaaGreat
