import Derived.Test.YtbodiiomcfgokaaGreatB09
open Int (toNat toNat_natCast)
open Go.IntKind (wrap)
open List (append_assoc append_nil cons_append drop_length filter_append filter_cons filter_nil getElem?_eq_getElem getElem?_map getElem_map getElem_mem length_append length_cons length_drop length_map length_singleton length_take map_append map_cons map_map mem_filter mem_map mem_singleton range take_add_one take_append_drop take_length)
open Nat (add_assoc le_refl zero_add)
open Option (bind_eq_some_iff map_eq_some_iff none_or toList_some)
set_option linter.all false
namespace Go.Proofs.YtbodiiomcfgokaaGreat
open Go.Proofs.Tryz Go.aP Go.RowKit
@[reducible] def cc(c:ae):List PV:=[pI c.kind,pB c.goal,pS c.id,.list 6 .sh (c.attr.map Test.pv),.list 6 .sh (c.value.map Test.pv),pB c.acc,.list 7 .sh (c.conds.map ae.pv)]
theorem GV{l:List Test}{k:Nat}(hk:k<l.length):gX (l.take (k+1))=gX (l.take k)++(if aF l[k].var ⟨#[]⟩=true then[l[k]]else[]):=by
 unfold gX;rw[take_add_one,getElem?_eq_getElem hk,filter_append];congr 1;simp only[toList_some,filter_cons,filter_nil]
theorem Su(f:Fl)(l:List Test)(hl:l.length<=1000)(ht:∀t∈l,t.list.length<=1000):Pure prog 271 [.list 6 f (l.map Test.pv)] (.list 6 .sh ((gX l).map Test.pv)):=by
 refine au.of (CT.c ?_);have hb:∀k,(gX (l.take k)).length<=1000:=λk=>by
  have:=sO (l.take k);have:=List.length_take_le k l;have h3:(l.take k).length<=l.length:=by rw[length_take];omega
  omega
 refine ak.dd (n:=l.length) (by omega) (λk x u=>x.2=(gX (l.take k)).map Test.pv/\Ow [e_ x.1 (gX (l.take k)).length 6] u) ⟨rfl,Ow.nil (L:=[]) trivial (.inl rfl)⟩ ?_ ?_
 ·rintro k ⟨fl,_⟩ u next hk ⟨rfl,hO⟩ av
  have hft:=GV hk;have hbk:=hb k;have gf:=ht _ (getElem_mem hk);refine ab.t (by simpa using hk) ⟨by omega,_,aC hk,_,_,_,_,_,_,_,rfl,ab.mk (λhv=>?_) (λhv=>?_)⟩
  ·rw[if_pos hv]at hft;refine Ow.app (Ow.nil (n:=0) hO (.inl rfl)) rfl (by simp only[length_map];omega) (by simp only[length_map];omega) λf1 u1 sv=>?_;refine Ow.app sv.drop (by simp only[length_map]) (by simp only[length_singleton];omega) (by simp only[length_singleton];omega) λf2 u2 gg=>av _ _ ⟨?_,?_⟩
   ·rw[hft,map_append];rfl
   ·rw[hft,length_append];exact gg
  ·rw[if_neg (by simp[hv]),append_nil]at hft;exact av _ _ ⟨by rw[hft],by rw[hft];exact hO⟩
 ·rintro⟨fl,_⟩ u next ⟨rfl,hO⟩
  refine ab.f (by simp) ?_;rw[take_length];rfl
theorem DE{l:List Test}(h:∀t∈l,oq t):∀t∈l,t.list.length<=1000:=λt ht=>by have:=(h t ht).1;omega
theorem aec(c:ae)(fa fv fc:Fl)(hl:cW c):Pure prog 225 [.agg [pI c.kind,pB c.goal,pS c.id,.list 6 fa (c.attr.map Test.pv),.list 6 fv (c.value.map Test.pv),pB c.acc,.list 7 fc (c.conds.map ae.pv)]] (.agg (cc (bt c))):=by
 obtain⟨_,h1,h2,h3,h4,_⟩:=(bG c).1 hl;refine au.of (Gp.c ?_);refine(Su _ c.attr (by omega) (DE h3)).q ⟨_,_,rfl,(Su _ c.value (by omega) (DE h4)).q ⟨_,_,rfl,rfl⟩⟩
theorem Xz(f g:Fl)(l m:List Test)(hl:l.length<=1000000)(ht:∀t∈l,t.list.length<=1000000):bQ 226 [.list 6 f (l.map Test.pv),.list 6 g (m.map Test.pv)] (l=m):=by
 refine au.of (Gn.c (ab.mk (λh=>bQ.no (qf h)) (λh=>?_)));refine jr (l:=l) (m:=m) (n:=l.length) rfl (nK h) (by omega) (λk hk bZ u next hy cQ=>?_) (λu next e=>ab.f (by simp) (bQ.yes e));refine ab.t (by simpa using hk) ⟨by omega,_,aC hk,_,_,_,_,_,_,_,rfl,by omega,_,aC bZ,_,_,_,_,_,_,_,rfl,ab.mk (λh1=>bQ.no (cQ λe=>?_)) (λh1=>ab.mk (λh2=>bQ.no (cQ λe=>?_)) (λh2=>ab.mk (λh3=>bQ.no (cQ λe=>?_)) (λh3=>ab.mk (λh4=>bQ.no (cQ λe=>?_)) (λh4=>?_))))⟩
 ·rw[e]at h1;simp at h1
 ·rw[e,eG]at h2;cases h2
 ·have h':eU l[k].sym m[k].sym=false:=nb h3;rw[cz.2 (by rw[e])]at h';cases h'
 ·exact absurd (by rw[e]) (qf h4)
 ·have Fj:=ht _ (getElem_mem hk);refine jr (l:=l[k].list) (m:=m[k].list) (n:=l[k].list.length) rfl (nK h4) (by omega) (λi hi tD u1 iZ Mf Rm=>?_) (λu1 iZ e=>ab.f (by simp) (hy (Es (by simpa using h1) (bF.1 (nt h2)) (cz.1 (nt h3)) e) _));refine ab.t (by simpa using hi) ⟨by omega,_,aC hi,_,_,_,rfl,by omega,_,aC tD,_,_,_,rfl,ab.mk (λh5=>bQ.no (cQ λe=>Rm (λe'=>?_) (by rw[e]))) (λh5=>Mf (cz.1 (nt h5)) _)⟩;have h':eU l[k].list[i] m[k].list[i]=false:=nb h5;rw[cz.2 e']at h';cases h'
theorem SI(c:ae)(e:aj)(fa fv fc:Fl)(hl:cW c):Pure prog 213 [.agg [pI c.kind,pB c.goal,pS c.id,.list 6 fa (c.attr.map Test.pv),.list 6 fv (c.value.map Test.pv),pB c.acc,.list 7 fc (c.conds.map ae.pv)],.agg e.pv] (pB (bg c e)):=by
 obtain⟨_,h1,h2,h3,h4,_⟩:=(bG c).1 hl;refine au.of (CU.c ?_);refine(SP .sh .sh .sh .nil (WM c) e [] (by show 0+1+c.attr.length+c.value.length<=1000000;omega) (cI h3) (cI h4)).call ?_;unfold bg;cases c_ (WM c) e []with
 |none=>exact⟨_,_,_,rfl,rfl⟩
 |some r=>exact⟨_,_,_,rfl,rfl⟩
theorem aee{L:List aR}{μ:Mem}(hO:Ow L μ){K:Kq}(hk:∀μ' n,Ow (bB n [] []::L) μ'->K (pP n 0) μ'):aa prog 116 [] μ K:=by
 refine IX.c (AE.BE hO λu1 me h1=>⟨_,rfl,AM.BE h1 λu2 mm h2=>⟨_,rfl,λn hn=>hk _ n ?_⟩⟩);exact bB.shut (ms:=[]) ((h2.swap.new 294 [pP me 0,pP mm 0] hn))
theorem th{n me mm:Nat}{es:List aj}{ms:dg}{L:List aR}{μ:Mem}(h:Ow (AM.cr mm (ms.map iL)::(Pt n 294 [pP me 0,pP mm 0]::AE.cr me (es.map mY)::(ms.map dn++L))) μ):Ow (bB n es ms::L) μ:=bB.shut (h.swap.tail λ_ h=>h.swap)
theorem getM(k:Int)(ms:dg):aL AM.ck AM.key (AM.key (k,AM.z)) (ms.map iL)=(aL aw bO k ms).map iL:=nG
theorem Ol(t:Int)(es:List aj):aL AE.ck AE.key (AE.key (t,AE.z)) (es.map mY)=(aL aw aG t es).map mY:=nG
theorem map_none{α β:Type}{f:α->β}{o:Option α}(h:o.map f=none):o=none:=by
 cases o with
 |none=>rfl
 |some x=>cases h
def jn(k:Int)(ms:dg):dg:=
 match aL aw bO k ms with
 |none=>ms
 |some x=>if x.2.aM=1 then bY aw bO k ms else aZ aw bO (k,{x.2 with aM:=x.2.aM-1}) ms
theorem dr.leave{es:List aj}{ms:dg}(h:dr es ms)(k:Int):dr es (jn k ms):=by
 unfold jn;split
 ·exact h
 ·rename_i x hx;obtain⟨h1,h2⟩:=(a_ ar h.mX).1 hx;have hu:=h.aM x h1;split
  ·exact h.del k
  ·exact h.iM h1 (x':=(k,{x.2 with aM:=x.2.aM-1})) h2.symm rfl rfl ⟨by show 1<=x.2.aM-1;omega,by show x.2.aM-1<1000000;omega⟩
theorem VZ{L:List aR}{μ:Mem}{n:Nat}{es:List aj}{ms:dg}(hO:Ow (bB n es ms::L) μ)(hI:dr es ms)(k:Int){K:Kq}(hk:∀μ',Ow (bB n es (jn k ms)::L) μ'->K (pB (aL aw bO k ms).isSome) μ'):aa prog 171 [pP n 0,pI k] μ K:=by
 obtain⟨me,mm,h⟩:=bB.open_ hO;have hlm:=hI.lm;refine wB.c ⟨_,h.rd 0 rfl (by simp),AM.gO (Ow.at 2 rfl h) hI.um (by simp;omega) k (λy μ' hy h'=>?_) (λμ' hy h'=>?_)⟩
 ·rw[getM]at hy;obtain⟨x,hx,rfl⟩:=map_eq_some_iff.1 hy;obtain⟨zC,hxk⟩:=(a_ ar hI.mX).1 hx;have NX:=hI.aM x zC;have hw:wrap .i64 (x.2.aM-1)=x.2.aM-1:=aD (by omega) (by omega);refine⟨_,_,_,_,_,_,_,_,_,_,_,_,_,rfl,ab.f rfl (ab.mk (λh1=>?_) (λh1=>?_))⟩
  ·have h1:x.2.aM=1:=by
    have:wrap .i64 (x.2.aM-1)=0:=by simpa[iL,dX.acn]using h1
    omega
   refine⟨_,h'.rd 1 rfl (by simp),AM.oE h' hI.um (by simp;omega) k (λy2 μ2 Fc h2=>?_) (λμ2 Fc h2=>?_)⟩
   ·refine⟨_,_,_,_,_,_,_,_,_,_,_,_,_,rfl,?_⟩;have:=hk μ2;rw[hx]at this;refine this ?_;have e1:jn k ms=bY aw bO k ms:=by unfold jn;rw[hx];exact if_pos h1
    rw[e1];obtain⟨A,B,e,ed,_⟩:=hI.mX.at_ ar zC;have acA:bO x=k:=hxk;rw[acA]at ed;refine th (mm:=mm) (me:=me) ?_;have hdm:bY AM.ck AM.key (AM.key (k,AM.z)) (ms.map iL)=(bY aw bO k ms).map iL:=BB;rw[hdm]at h2;have e2:ms.map dn=A.map dn++dn x::B.map dn:=by rw[e];simp
    rw[e2]at h2;have h3:=(Ow.pick (P:=[AM.cr mm ((bY aw bO k ms).map iL),Pt n 294 [pP me 0,pP mm 0],AE.cr me (es.map mY)]) h2).drop;have e3:(bY aw bO k ms).map dn=A.map dn++B.map dn:=by rw[ed,map_append]
    rw[e3];exact h3
   ·rw[getM,hx]at Fc;cases Fc
  ·have h1:x.2.aM≠1:=λe=>by
    have GA:(wrap .i64 (x.2.aM-1) == 0)=false:=h1;rw[hw,e]at GA;simp at GA
   refine⟨_,h'.rd 1 rfl (by simp),?_⟩;show aa _ _ [pP mm 0,pI k,.agg [_,_,_,_,_,_,_,pI (wrap .i64 (x.2.aM-1)),_]] _ _;rw[hw];refine AM.mP h' hI.um (by simp;omega) k ⟨x.2.c,x.2.aM-1,some ⟨x.2.b,0,none⟩⟩ λμ2 h2=>⟨_,rfl,?_⟩;have:=hk μ2;rw[hx]at this;refine this ?_;have e1:jn k ms=aZ aw bO (k,{x.2 with aM:=x.2.aM-1}) ms:=by unfold jn;rw[hx];exact if_neg h1
   rw[e1];refine th (mm:=mm) (me:=me) ?_;rw[Hb hI zC (x':=(k,{x.2 with aM:=x.2.aM-1})) hxk.symm rfl];have e2:aZ AM.ck AM.key (k,⟨x.2.c,x.2.aM-1,some ⟨x.2.b,0,none⟩⟩) (ms.map iL)=(aZ aw bO (k,{x.2 with aM:=x.2.aM-1}) ms).map iL:=lL (f:=iL) (x:=(k,{x.2 with aM:=x.2.aM-1}));rw[e2]at h2;exact h2
 ·rw[getM]at hy;have hx:=map_none hy;refine⟨_,_,_,_,_,_,_,_,_,_,_,_,_,rfl,ab.t rfl ?_⟩;have:=hk μ';rw[hx]at this;refine this ?_;have e1:jn k ms=ms:=by unfold jn;rw[hx]
  rw[e1];exact th h'
theorem aao{L:List aR}{μ:Mem}{n:Nat}{es:List aj}{ms:dg}(hO:Ow (bB n es ms::L) μ)(hI:dr es ms)(agZ:ms.length+1<1000000)(NX:∀x∈ms,x.2.aM+1<1000000)(c:ae)(hl:cW c){K:Kq}
  (jB:∀x∈ms,x.2.c=bt c->∀μ',Ow (bB n es (aZ aw bO (x.1,{x.2 with aM:=x.2.aM+1}) ms)::L) μ'->K (pI x.1) μ')
  (Gy:(∀x∈ms,x.2.c≠bt c)->∀μ' b,Ow (bB n es (aZ aw bO (least ms,⟨bt c,1,b,es.filter (bg (bt c))⟩) ms)::L) μ'->K (pI (least ms)) μ'):aa prog 166 [pP n 0,.agg (cc c)] μ K:=by
 obtain⟨me,mm,h⟩:=bB.open_ hO;have hlm:=hI.lm;have hle:=hI.le;have hbl:=BK hl;have hbb:=Ee hl;obtain⟨_,bl1,bl2,bl3,bl4,_⟩:=(bG _).1 hbl;refine yg.c λb2 qv b3 Kr b4 Gz=>?_;have O1:=h.new 132 [pP n 0] qv;have O2:=O1.new 28 (cc c) Kr;have O3:=O2.new 3 [pI 0] Gz;refine⟨_,_,_,_,_,_,_,_,_,_,O3.rd 1 rfl (by simp),(aec c .sh .sh .sh hl).call ⟨_,_,_,_,_,_,_,_,_,_,rfl,O3.st 1 rfl (by simp) λu1 O4=>λb5 TA=>?_⟩⟩;refine(O4.new 287 [pI 0] TA).st 0 rfl (by simp) λu2 O5=>?_;refine⟨_,O5.rd 3 rfl (by simp),_,O5.rd 4 rfl (by simp),(AM.vK mm).call ⟨_,_,_,rfl,?_⟩⟩;have pG:((ms.map iL).map λx=>[AM.cY x.1,AM.gP x.2]).length=ms.length:=by simp
 refine bu.own (AM.gn mm (ms.map iL) (by simp;omega)) (Ow.at 6 rfl O5)
  (λk u=>(∀x∈ms.take k,x.2.c≠bt c)/\Ow (AM.cr mm (ms.map iL)::Pt b5 287 [pI (least (ms.take k))]::Pt b4 3 [pI 0]::Pt b3 28 (cc (bt c))::Pt b2 132 [pP n 0]::Pt n 294 [pP me 0,pP mm 0]::AE.cr me (es.map mY)::(ms.map dn++L)) u)
  (λcd u=>cd=.ret/\∃x∈ms,x.2.c=bt c/\Ow (Pt b4 3 [pI x.1]::bB n es (aZ aw bO (x.1,{x.2 with aM:=x.2.aM+1}) ms)::L) u)
  (λk=>eC.and (eC.own _)) (λcd=>eC.and λμ μ' hs ⟨x,h1,h2,h3⟩=>⟨x,h1,h2,h3.mono hs⟩) (λμ' h'=>⟨by simp,h'⟩) ?_ ?_ ?_
 ·rintro k hk u R ⟨cQ,hO⟩ ca iE;have bZ:k<ms.length:=by simpa using hk
  have zC:ms[k]∈ms:=getElem_mem bZ;have hb:=hI.bare _ zC;obtain⟨_,l1,l2,l3,l4,_⟩:=(bG _).1 hb.sk;have hux:=hI.aM _ zC;have ak2:=NX _ zC;obtain⟨le0,le1,_,_⟩:=Bb (ms.take k) (List.Pairwise.sublist (List.take_sublist _ _) hI.mX) λx hx=>(hI.num x (List.mem_of_mem_take hx)).1;rw[getElem_map,getElem_map];have WG:ms[k].2.c≠bt c->∀x∈ms.take (k+1),x.2.c≠bt c:=λaQ x hx=>by
   rw[take_add_one,getElem?_eq_getElem bZ,List.mem_append]at hx;rcases hx with hx|hx
   ·exact cQ x hx
   ·simp at hx;rw[hx];exact aQ
  refine⟨_,_,_,_,_,_,_,_,_,_,_,_,_,rfl,λ_ u=>ms[k].2.c≠bt c/\Ow (AM.cr mm (ms.map iL)::Pt b5 287 [pI (least (ms.take k))]::Pt b4 3 [pI 0]::Pt b3 28 (cc (bt c))::Pt b2 132 [pP n 0]::Pt n 294 [pP me 0,pP mm 0]::AE.cr me (es.map mY)::(ms.map dn++L)) u,?_,?_⟩
  ·refine⟨_,hO.rd 3 rfl (by simp),ab.mk (λg1=>⟨_,hO.rd 3 rfl (by simp),ab.mk (λg2=>⟨_,_,hO.rd 3 rfl (by simp),?_⟩) (λg2=>⟨λe=>?_,hO⟩)⟩) (λg1=>⟨λe=>?_,hO⟩)⟩
   ·refine(Xz _ _ ms[k].2.c.attr (bt c).attr (by omega) (cI l3)).call (λe1=>⟨_,rfl,ab.t rfl ⟨_,_,hO.rd 3 rfl (by simp),?_⟩⟩) (λaQ=>⟨_,rfl,ab.f rfl ⟨λe=>aQ (by rw[e]),hO⟩⟩);refine(Xz _ _ ms[k].2.c.value (bt c).value (by omega) (cI l4)).call (λe2=>⟨_,rfl,ab.t rfl ⟨_,hO.rd 4 rfl (by simp),_,hO.rd 5 rfl (by simp),?_⟩⟩) (λaQ=>⟨_,rfl,ab.f rfl ⟨λe=>aQ (by rw[e]),hO⟩⟩);have g1':(ms[k].2.c.goal == (bt c).goal)=true:=g1;have g2':(ms[k].2.c.acc == (bt c).acc)=true:=g2;have ec:ms[k].2.c=bt c:=hb.eq hbb (by simpa using g1') (by simpa using g2') e1 e2;have hw:wrap .i64 (ms[k].2.aM+1)=ms[k].2.aM+1:=aD (by omega) (by omega);show aa _ _ [pP mm 0,pI ms[k].1,.agg [_,_,_,_,_,_,_,pI (wrap .i64 (ms[k].2.aM+1)),_]] _ _;rw[hw];refine AM.mP hO hI.um (by simp;omega) ms[k].1 ⟨ms[k].2.c,ms[k].2.aM+1,some ⟨ms[k].2.b,0,none⟩⟩ λμ2 h2=>⟨_,rfl,h2.st 2 rfl (by simp) λμ3 h3=>iE _ _ ⟨rfl,ms[k],zC,ec,?_⟩⟩;have e2:aZ AM.ck AM.key (ms[k].1,⟨ms[k].2.c,ms[k].2.aM+1,some ⟨ms[k].2.b,0,none⟩⟩) (ms.map iL)=(aZ aw bO (ms[k].1,{ms[k].2 with aM:=ms[k].2.aM+1}) ms).map iL:=lL (f:=iL) (x:=(ms[k].1,{ms[k].2 with aM:=ms[k].2.aM+1}));rw[e2]at h3;refine(Ow.at 2 rfl h3).tail λν h4=>th (mm:=mm) (me:=me) ?_;rw[Hb hI zC (x':=(ms[k].1,{ms[k].2 with aM:=ms[k].2.aM+1})) rfl rfl];exact h4.tail λν h5=>h5.drop.drop.drop
   ·have g2':(ms[k].2.c.acc == (bt c).acc)=false:=g2;rw[e]at g2';simp at g2'
   ·have g1':(ms[k].2.c.goal == (bt c).goal)=false:=g1;rw[e]at g1';simp at g1'
  ·rintro _ u ⟨aQ,hO⟩;have bI:=Ba bZ;refine⟨_,hO.rd 1 rfl (by simp),ab.mk (λg=>⟨_,hO.rd 1 rfl (by simp),hO.st 1 rfl (by simp) λu3 h3=>ca _ ⟨WG aQ,?_⟩⟩) (λg=>ca _ ⟨WG aQ,?_⟩)⟩
   ·have g:ms[k].1=least (ms.take k):=by simpa[iL]using g
    rw[if_pos g]at bI;rw[bI];have hw:wrap .i64 (least (ms.take k)+1)=least (ms.take k)+1:=aD (by omega) (by rw[length_take]at le1;omega);have Xr:Ow (AM.cr mm (ms.map iL)::Pt b5 287 [pI (wrap .i64 (least (ms.take k)+1))]::Pt b4 3 [pI 0]::Pt b3 28 (cc (bt c))::Pt b2 132 [pP n 0]::Pt n 294 [pP me 0,pP mm 0]::AE.cr me (es.map mY)::(ms.map dn++L)) u3:=h3;rw[hw]at Xr;exact Xr
   ·have g:ms[k].1≠least (ms.take k):=by simpa[iL]using g
    rw[if_neg g]at bI;rw[bI];exact hO
 ·rintro u ⟨cQ,hO⟩;rw[pG,take_length]at cQ hO;obtain⟨agR,ajM⟩:=hI.new hbb cQ 0 agZ;have hun:b_ AT.ck AT.key (es.filter (bg (bt c))):=b_.filter hI.wC _;refine⟨λs u=>∃b8 b,s=some ⟨b8,0,none⟩/\Ow (Pt b8 292 (cc (bt c)++[pI 1,pP b 0])::AT.At b []::AE.cr me (es.map mY)::AM.cr mm (ms.map iL)::Pt b5 287 [pI (least ms)]::Pt b4 3 [pI 0]::Pt b3 28 (cc (bt c))::Pt b2 132 [pP n 0]::Pt n 294 [pP me 0,pP mm 0]::(ms.map dn++L)) u,?_,?_⟩
  ·have hO:=Ow.at 6 rfl hO;refine⟨_,_,_,_,_,_,_,_,_,_,hO.rd 4 rfl (by simp),?_,λb8 Oh=>?_⟩
   ·refine aa.q (AT.gj (L:=[]) trivial .nil [] (by simp) (K:=λp μ'=>∃b,p=pP b 0/\Ow [AT.At b []] μ') λμ' b hb=>⟨b,rfl,hb⟩) ?_;rintro _ ν tx ⟨b,rfl,hb⟩;refine⟨_,rfl,λb8 Oh=>?_⟩;have h1:=hO.side tx hb;exact(h1.new 292 _ Oh).st 0 rfl (by simp) λu3 h3=>⟨b8,b,rfl,h3⟩
   ·have h1:=hO.new 292 [pI 0,pB false,pS ⟨#[]⟩,.list 6 .nil [],.list 6 .nil [],pB false,.list 7 .nil [],pI 0,.raw (.pointer none)] Oh;refine aa.q (AT.gj (L:=[]) trivial .nil [] (by simp) (K:=λp μ'=>∃b,p=pP b 0/\Ow [AT.At b []] μ') λμ' b hb=>⟨b,rfl,hb⟩) ?_;rintro _ ν tx ⟨b,rfl,hb⟩;have h2:=h1.side tx hb;exact⟨_,rfl,h2.st 1 rfl (by simp) λu3 h3=>⟨b8,b,rfl,Ow.swap h3⟩⟩
  ·rintro _ u ⟨b8,b,rfl,hO⟩;refine⟨_,hO.rd 7 rfl (by simp),_,hO.rd 8 rfl (by simp),(AE.vK me).call ⟨_,_,_,rfl,?_⟩⟩;have Pn:((es.map mY).map λx=>[AE.cY x.1,AE.gP x.2]).length=es.length:=by simp
   refine bu.own (AE.gn me (es.map mY) (by simp;omega)) (Ow.at 2 rfl hO)
    (λk u=>Ow (AT.At b ((es.take k).filter (bg (bt c)))::AE.cr me (es.map mY)::Pt b8 292 (cc (bt c)++[pI 1,pP b 0])::AM.cr mm (ms.map iL)::Pt b5 287 [pI (least ms)]::Pt b4 3 [pI 0]::Pt b3 28 (cc (bt c))::Pt b2 132 [pP n 0]::Pt n 294 [pP me 0,pP mm 0]::(ms.map dn++L)) u)
    (λ_ _=>False) (λk=>eC.own _) (λ_ _ _ _ h=>h.elim) (λμ' h'=>(h'.tail λ_ h=>h.swap).swap) ?_ ?_ ?_
   ·rintro k hk u R hO ca _;have bZ:k<es.length:=by simpa using hk
    rw[getElem_map,getElem_map];have gf:(es.take (k+1)).filter (bg (bt c))=(es.take k).filter (bg (bt c))++(if bg (bt c) es[k]=true then[es[k]]else[]):=by
     rw[take_add_one,getElem?_eq_getElem bZ,filter_append];congr 1;simp only[toList_some,filter_cons,filter_nil]
    have ke:∀x∈es.take k,aw (aG x) (aG es[k])<0:=λx hx=>by
     obtain⟨i,hi,rfl⟩:=List.mem_iff_getElem.1 hx;rw[List.getElem_take];simp only[length_take]at hi;exact List.pairwise_iff_getElem.1 hI.wC i k (by omega) bZ (by omega)
    refine⟨_,_,_,_,_,_,_,_,_,_,_,_,_,rfl,_,_,_,_,_,_,_,_,_,_,hO.rd 6 rfl (by simp),(SI (bt c) es[k] .sh .sh .sh hbl).call ⟨_,rfl,ab.mk (λhm=>?_) (λhm=>?_)⟩⟩
    ·refine⟨_,hO.rd 2 rfl (by simp),AT.fL hO (b_.filter (List.Pairwise.sublist (List.take_sublist _ _) hI.wC) _) (by
      have:=List.length_filter_le (bg (bt c)) (es.take k)
      have:(es.take k).length<=es.length:=by rw[length_take];omega
      omega) es[k] λu3 h3=>⟨_,rfl,ca _ ?_⟩⟩
     rw[gf,if_pos hm];have hp:dq AT.ck AT.key es[k] ((es.take k).filter (bg (bt c)))=(es.take k).filter (bg (bt c))++[es[k]]:=Ny AT.hc λx hx=>ke x (mem_filter.1 hx).1;rw[hp]at h3;exact h3
    ·refine ca _ ?_;rw[gf,if_neg (by simp[hm]),append_nil];exact hO
   ·intro u hO;rw[Pn,take_length]at hO;refine⟨_,hO.rd 7 rfl (by simp),_,hO.rd 8 rfl (by simp),_,hO.rd 4 rfl (by simp),_,_,_,_,_,_,_,_,_,_,_,_,hO.rd 2 rfl (by simp),?_⟩;have wI:=Ow.at 3 rfl hO;refine AM.mP wI hI.um (by simp;omega) (least ms) ⟨bt c,1,some ⟨b,0,none⟩⟩ λu3 h3=>⟨_,rfl,_,h3.rd 4 rfl (by simp),h3.st 5 rfl (by simp) λu4 h4=>⟨_,h4.rd 5 rfl (by simp[dx]),Gy cQ u4 b ?_⟩⟩;have e2:aZ AM.ck AM.key (least ms,⟨bt c,1,some ⟨b,0,none⟩⟩) (ms.map iL)=(aZ aw bO (least ms,⟨bt c,1,b,es.filter (bg (bt c))⟩) ms).map iL:=lL (f:=iL) (x:=(least ms,⟨bt c,1,b,es.filter (bg (bt c))⟩));rw[e2]at h4;refine th (mm:=mm) (me:=me) ?_;have so:=(nD ar (x:=(least ms,(⟨bt c,1,b,es.filter (bg (bt c))⟩:dX))) (L:=ms) agR).map dn;have h5:Ow (AM.cr mm ((aZ aw bO (least ms,⟨bt c,1,b,es.filter (bg (bt c))⟩) ms).map iL)::AT.At b (es.filter (bg (bt c)))::AE.cr me (es.map mY)::Pt n 294 [pP me 0,pP mm 0]::(ms.map dn++L)) u4:=h4.tail λ_ h=>h.tail λ_ h=>h.tail λ_ h=>h.drop.drop.drop.drop.drop;refine h5.tail λ_ h6=>?_;have h7:=(h6.tail λ_ h=>h.swap);have h8:Ow (Pt n 294 [pP me 0,pP mm 0]::AE.cr me (es.map mY)::(AT.At b (es.filter (bg (bt c)))::(ms.map dn++L))) _:=(h7.swap).tail λ_ h=>h.swap;refine h8.tail λ_ h=>h.tail λ_ h9=>?_;exact h9.perm (List.Perm.append_right L so.symm)
   ·intro _ _ h;exact h.elim
 ·rintro cd u ⟨rfl,x,hx,ec,hO⟩;exact⟨_,hO.rd 0 rfl (by simp),jB x hx ec u hO.drop⟩
@[reducible] def f_(k:Int):List PV:=[pI k]
@[reducible] def z12:List PV:=[pI 0,pS ⟨#[]⟩,pI 0,pI 0,pS ⟨#[]⟩,pI 0,pI 0,pS ⟨#[]⟩,pI 0,pB false,pB false,pI 0]
theorem Bm{e:aj}{ms:dg}{k:Nat}(hk:k<ms.length):et e (ms.take (k+1))=et e (ms.take k)++(if bg ms[k].2.c e=true then[ms[k].1]else[]):=by
 unfold et;rw[take_add_one,getElem?_eq_getElem hk,filter_append,map_append];congr 1;simp only[toList_some,filter_cons,filter_nil];split<;>rfl
theorem rl(e:aj)(ms:dg):(et e ms).length<=ms.length:=by
 unfold et;rw[length_map];exact List.length_filter_le _ _
theorem zP{f:Int×dX->Int×dX}{ms:dg}{k:Nat}(hk:k<ms.length):((ms.take k).map f++ms.drop k).map dn=((ms.take k).map f).map dn++dn ms[k]::(ms.drop (k+1)).map dn:=by
 rw[map_append,List.drop_eq_getElem_cons hk,map_cons]
theorem zv{f:Int×dX->Int×dX}{ms:dg}{k:Nat}(hk:k<ms.length):((ms.take (k+1)).map f++ms.drop (k+1)).map dn=((ms.take k).map f).map dn++dn (f ms[k])::(ms.drop (k+1)).map dn:=by
 have e:(ms.take (k+1)).map f=(ms.take k).map f++[f ms[k]]:=eP hk;rw[e,map_append,map_append,append_assoc];rfl
theorem Uv(e:aj)(ms:dg):(ms.map (xn e)).map iL=ms.map iL:=by rw[map_map];rfl
theorem Qs(t:Int)(ms:dg):(ms.map (oX t)).map iL=ms.map iL:=by rw[map_map];rfl
theorem aed{L:List aR}{μ:Mem}{n:Nat}{es:List aj}{ms:dg}(hO:Ow (bB n es ms::L) μ)(hI:dr es ms)(e:aj){K:Kq}
  (jB:(aL aw aG e.tag es).isSome=true->∀μ',Ow (bB n es ms::L) μ'->K (.az [.list 1 .nil [],pI 3]) μ')
  (Gy:aL aw aG e.tag es=none->∀μ' fl,Ow (bB n (aZ aw aG e es) (ms.map (xn e))::L) μ'->K (.az [.list 1 fl ((et e ms).map f_),pI 0]) μ'):aa prog 147 [pP n 0,.agg e.pv] μ K:=by
 obtain⟨me,mm,h⟩:=bB.open_ hO;have hlm:=hI.lm;have hle:=hI.le;refine zu.c λb3 Kr=>?_;have O1:=h.new 78 e.pv Kr;refine⟨λs u=>aL aw aG e.tag es=none/\Ow (Pt b3 78 e.pv::Pt n 294 [pP me 0,pP mm 0]::AE.cr me (es.map mY)::AM.cr mm (ms.map iL)::(ms.map dn++L)) u,?_,?_⟩
 ·have fin:∀{cs:List PV} {b6:Nat} {u:Mem} {q:Bool},Ow (Pt b6 78 cs::Pt b3 78 e.pv::Pt n 294 [pP me 0,pP mm 0]::AE.cr me (es.map mY)::AM.cr mm (ms.map iL)::(ms.map dn++L)) u->(q=true->(aL aw aG e.tag es).isSome=true)->(q=false->aL aw aG e.tag es=none)->ab q (K (.az [.list 1 .nil [],pI 3]) u) (aL aw aG e.tag es=none/\Ow (Pt b3 78 e.pv::Pt n 294 [pP me 0,pP mm 0]::AE.cr me (es.map mY)::AM.cr mm (ms.map iL)::(ms.map dn++L)) u):=λ{cs b6 u q} hO h1 h2=>
   ab.mk (λhq=>jB (h1 hq) u (bB.shut hO.drop.drop)) (λhq=>⟨h2 hq,hO.drop⟩)
  refine⟨_,O1.rd 1 rfl (by simp),_,O1.rd 0 rfl (by simp),?_,λb6 Fo=>?_⟩
  ·refine AE.gO (Ow.at 2 rfl O1) hI.ue (by simp;omega) e.tag (λy μ' hy h'=>?_) (λμ' hy h'=>?_)
   ·refine⟨_,_,_,_,_,_,_,_,_,_,_,_,_,rfl,λb6 Fo=>((h'.swap.tail λ_ h=>h.swap).new 78 z12 Fo).st 0 rfl (by simp) λu2 h2=>fin h2 (λ_=>?_) (λhq=>by cases hq)⟩;rw[Ol]at hy;cases hx:aL aw aG e.tag es with
    |none=>rw[hx]at hy;cases hy
    |some x=>rfl
   ·refine⟨_,_,_,_,_,_,_,_,_,_,_,_,_,rfl,λb6 Fo=>((h'.swap.tail λ_ h=>h.swap).new 78 z12 Fo).st 0 rfl (by simp) λu2 h2=>fin h2 (λhq=>by cases hq) (λ_=>?_)⟩;rw[Ol]at hy;exact map_none hy
  ·have O2:=O1.new 78 z12 Fo;refine AE.gO (Ow.at 3 rfl O2) hI.ue (by simp;omega) e.tag (λy μ' hy h'=>?_) (λμ' hy h'=>?_)
   ·refine⟨_,_,_,_,_,_,_,_,_,_,_,_,_,rfl,(Ow.at 1 rfl h').st 0 rfl (by simp) λu2 h2=>fin (h2.tail λ_ h=>h.swap.tail λ_ h=>h.swap) (λ_=>?_) (λhq=>by cases hq)⟩;rw[Ol]at hy;cases hx:aL aw aG e.tag es with
    |none=>rw[hx]at hy;cases hy
    |some x=>rfl
   ·refine⟨_,_,_,_,_,_,_,_,_,_,_,_,_,rfl,(Ow.at 1 rfl h').st 0 rfl (by simp) λu2 h2=>fin (h2.tail λ_ h=>h.swap.tail λ_ h=>h.swap) (λhq=>by cases hq) (λ_=>?_)⟩;rw[Ol]at hy;exact map_none hy
 ·rintro⟨⟨_,_⟩,_⟩ u ⟨hn,hO⟩;refine⟨_,hO.rd 1 rfl (by simp),_,hO.rd 0 rfl (by simp),_,_,_,_,_,_,_,_,_,_,_,_,hO.rd 0 rfl (by simp),?_⟩;refine AE.mP (Ow.at 2 rfl hO) hI.ue (by simp;omega) e.tag e λu1 h1=>⟨_,rfl,λb8 Oh=>?_⟩;have e1:aZ AE.ck AE.key (e.tag,e) (es.map mY)=(aZ aw aG e es).map mY:=lL (f:=mY) (x:=e);rw[e1]at h1;have h2:=h1.new 45 [.list 1 .nil []] Oh;refine⟨_,h2.rd 3 rfl (by simp),(AM.vK mm).call ⟨_,_,_,rfl,?_⟩⟩;have pG:((ms.map iL).map λx=>[AM.cY x.1,AM.gP x.2]).length=ms.length:=by simp
  refine bu.own (AM.gn mm (ms.map iL) (by simp;omega)) (Ow.at 4 rfl h2)
   (λk u=>∃fl,Ow (Pt b8 45 [.list 1 fl ((et e (ms.take k)).map f_)]::e_ fl (et e (ms.take k)).length 1::Pt b3 78 e.pv::AM.cr mm (ms.map iL)::AE.cr me ((aZ aw aG e es).map mY)::Pt n 294 [pP me 0,pP mm 0]::(((ms.take k).map (xn e)++ms.drop k).map dn++L)) u)
   (λ_ _=>False) (λk=>eC.ex λ_=>eC.own _) (λ_ _ _ _ h=>h.elim) (λμ' h'=>⟨.nil,?_⟩) ?_ ?_ ?_
  ·have h3:Ow (Pt b8 45 [.list 1 .nil []]::Pt b3 78 e.pv::AM.cr mm (ms.map iL)::AE.cr me ((aZ aw aG e es).map mY)::Pt n 294 [pP me 0,pP mm 0]::(ms.map dn++L)) μ':=by
    have a1:=h'.swap;refine a1.tail λ_ h=>?_;have a2:=(Ow.at 2 rfl h);exact a2
   refine h3.tail λ_ h=>Ow.nil ?_ (.inl rfl);simpa using h
  ·rintro k hk u R ⟨fl,hO⟩ ca _;have bZ:k<ms.length:=by simpa using hk
   have zC:ms[k]∈ms:=getElem_mem bZ;have hb:=(hI.bare _ zC).sk;have WQ:=hI.ul zC;have hht:=Bm (e:=e) bZ;have bI:=rl e (ms.take k);rw[length_take]at bI;rw[getElem_map,getElem_map];rw[zP bZ]at hO;have gg:=Ow.pick (P:=[Pt b8 45 [.list 1 fl ((et e (ms.take k)).map f_)],e_ fl (et e (ms.take k)).length 1,Pt b3 78 e.pv,AM.cr mm (ms.map iL),AE.cr me ((aZ aw aG e es).map mY),Pt n 294 [pP me 0,pP mm 0]]) hO;refine⟨_,_,_,_,_,_,_,_,_,_,_,_,_,rfl,_,_,_,_,_,_,_,_,_,_,_,_,hO.rd 2 rfl (by simp),(SI ms[k].2.c e .sh .sh .sh hb).call ⟨_,rfl,ab.mk (λhm=>?_) (λhm=>?_)⟩⟩
   ·refine⟨_,_,_,_,_,_,_,_,_,_,_,_,hO.rd 2 rfl (by simp),AT.fL (l:=ms[k].2.l) gg WQ.1 (by omega) e λu3 h3=>⟨_,rfl,_,_,h3.rd 1 rfl (by simp),?_⟩⟩;have hs:dn (xn e ms[k])=AT.At ms[k].2.b (dq AT.ck AT.key e ms[k].2.l):=by
     show AT.At ms[k].2.b (if bg ms[k].2.c e then _ else _)=_;rw[if_pos hm];rfl
    have h4:=(Ow.at 2 rfl h3);refine Ow.app h4 (by simp) (by simp;omega) (by simp;omega) λf' u4 h5=>?_;refine h5.st 2 rfl (by simp) λu6 h6=>ca _ ⟨f',?_⟩;rw[zv bZ,hs,hht,if_pos hm,map_append,length_append];refine Ow.sK (P:=[Pt b8 45 [.list 1 f' ((et e (ms.take k)).map f_++[ms[k].1].map f_)],e_ f' ((et e (ms.take k)).length+[ms[k].1].length) 1,Pt b3 78 e.pv,AM.cr mm (ms.map iL),AE.cr me ((aZ aw aG e es).map mY),Pt n 294 [pP me 0,pP mm 0]]) ?_;have h7:Ow (e_ f' ((et e (ms.take k)).length+1) 1::AT.At ms[k].2.b (dq AT.ck AT.key e ms[k].2.l)::Pt b8 45 [.list 1 f' ((et e (ms.take k)).map f_++[[pI ms[k].1]])]::Pt b3 78 e.pv::AM.cr mm (ms.map iL)::AE.cr me ((aZ aw aG e es).map mY)::Pt n 294 [pP me 0,pP mm 0]::((((ms.take k).map (xn e)).map dn++(ms.drop (k+1)).map dn)++L)) u6:=h6;exact h7.swap.tail λ_ h=>h.swap
   ·refine ca _ ⟨fl,?_⟩;have hs:dn (xn e ms[k])=dn ms[k]:=by
     show AT.At ms[k].2.b (if bg ms[k].2.c e then _ else _)=_;have sr:bg ms[k].2.c e=false:=hm;rw[if_neg (by simp[sr])];rfl
    have sr:bg ms[k].2.c e=false:=hm;rw[zv bZ,hs,hht,if_neg (by simp[sr]),append_nil];exact hO
  ·rintro u ⟨fl,hO⟩;rw[pG,take_length,drop_length,append_nil]at hO;refine⟨_,_,hO.rd 0 rfl (by simp),Gy hn u fl ?_⟩;refine bB.shut (me:=me) (mm:=mm) ?_;rw[Uv];have h3:=hO.drop.drop.drop;have h4:=Ow.at 2 rfl h3;exact h4.tail λ_ h=>h.swap
  ·intro _ _ h;exact h.elim
theorem Vh{es:List aj}{ms:dg}(hI:dr es ms){x:Int×dX}(hx:x∈ms){e:aj}(he:e∈es):(aL AT.ck AT.key (AT.key e) x.2.l).isSome=bg x.2.c e:=by
 rw[hI.has x hx];cases hm:bg x.2.c e with
 |true=>
  have:aL AT.ck AT.key (AT.key e) (es.filter (bg x.2.c))=some e:=(a_ AT.hc (b_.filter hI.wC _)).2 ⟨mem_filter.2 ⟨he,hm⟩,rfl⟩;rw[this];rfl
 |false=>
  have:aL AT.ck AT.key (AT.key e) (es.filter (bg x.2.c))=none:=(bz AT.hc).2 λy hy ey=>by
   have Ka:=mem_filter.1 hy;have:=b_.inj ar hI.wC Ka.1 he ey;rw[this,hm]at Ka;cases Ka.2
  rw[this];rfl
theorem aap{L:List aR}{μ:Mem}{n:Nat}{es:List aj}{ms:dg}(hO:Ow (bB n es ms::L) μ)(hI:dr es ms)(t:Int){K:Kq}
  (Gy:aL aw aG t es=none->∀μ',Ow (bB n es ms::L) μ'->K (.az [.list 1 .nil [],pI 4]) μ')
  (jB:∀e,aL aw aG t es=some e->∀μ' fl,Ow (bB n (bY aw aG t es) (ms.map (oX t))::L) μ'->K (.az [.list 1 fl ((et e ms).map f_),pI 0]) μ'):aa prog 157 [pP n 0,pI t] μ K:=by
 obtain⟨me,mm,h⟩:=bB.open_ hO;have hlm:=hI.lm;have hle:=hI.le;refine yi.c ⟨_,h.rd 0 rfl (by simp),AE.oE (Ow.at 1 rfl h) hI.ue (by simp;omega) t (λy u1 hy h1=>?_) (λu1 hy h1=>?_)⟩
 ·rw[Ol]at hy;obtain⟨e,he,rfl⟩:=map_eq_some_iff.1 hy;obtain⟨Og,het⟩:=(a_ ar hI.wC).1 he;have het:e.tag=t:=het;refine⟨_,_,_,_,_,_,_,_,_,_,_,_,_,rfl,λb6 Fo=>(h1.new 78 z12 Fo).st 0 rfl (by simp) λu2 h2=>ab.f rfl λb8 Oh=>?_⟩;have e1:bY AE.ck AE.key (AE.key (t,AE.z)) (es.map mY)=(bY aw aG t es).map mY:=BB;rw[e1]at h2;have h3:=h2.new 45 [.list 1 .nil []] Oh;refine⟨_,h3.rd 3 rfl (by simp),(AM.vK mm).call ⟨_,_,_,rfl,?_⟩⟩;have pG:((ms.map iL).map λx=>[AM.cY x.1,AM.gP x.2]).length=ms.length:=by simp
  refine bu.own (AM.gn mm (ms.map iL) (by simp;omega)) (Ow.at 4 rfl h3)
   (λk u=>∃fl,Ow (Pt b8 45 [.list 1 fl ((et e (ms.take k)).map f_)]::e_ fl (et e (ms.take k)).length 1::Pt b6 78 e.pv::AM.cr mm (ms.map iL)::AE.cr me ((bY aw aG t es).map mY)::Pt n 294 [pP me 0,pP mm 0]::(((ms.take k).map (oX t)++ms.drop k).map dn++L)) u)
   (λ_ _=>False) (λk=>eC.ex λ_=>eC.own _) (λ_ _ _ _ h=>h.elim) (λμ' h'=>⟨.nil,?_⟩) ?_ ?_ ?_
  ·have h4:Ow (Pt b8 45 [.list 1 .nil []]::Pt b6 78 e.pv::AM.cr mm (ms.map iL)::AE.cr me ((bY aw aG t es).map mY)::Pt n 294 [pP me 0,pP mm 0]::(ms.map dn++L)) μ':=by
    refine h'.swap.tail λ_ h=>?_;exact h.swap
   refine h4.tail λ_ h=>Ow.nil ?_ (.inl rfl);simpa using h
  ·rintro k hk u R ⟨fl,hO⟩ ca _;have bZ:k<ms.length:=by simpa using hk
   have zC:ms[k]∈ms:=getElem_mem bZ;have WQ:=hI.ul zC;have hht:=Bm (e:=e) bZ;have bI:=rl e (ms.take k);rw[length_take]at bI;have ag8:=Vh hI zC Og;rw[getElem_map,getElem_map];rw[zP bZ]at hO;have gg:=Ow.pick (P:=[Pt b8 45 [.list 1 fl ((et e (ms.take k)).map f_)],e_ fl (et e (ms.take k)).length 1,Pt b6 78 e.pv,AM.cr mm (ms.map iL),AE.cr me ((bY aw aG t es).map mY),Pt n 294 [pP me 0,pP mm 0]]) hO;have hs:dn (oX t ms[k])=AT.At ms[k].2.b (bY AT.ck AT.key (AT.key e) ms[k].2.l):=by
    have:AT.key e=t:=het;rw[this];rfl
   refine⟨_,_,_,_,_,_,_,_,_,_,_,_,_,rfl,_,_,_,_,_,_,_,_,_,_,_,_,hO.rd 2 rfl (by simp),AT.gA (l:=ms[k].2.l) gg WQ.1 (by omega) e λu3 h3=>⟨_,rfl,?_⟩⟩;rw[ag8];refine ab.mk (λhm=>⟨_,_,h3.rd 1 rfl (by simp),?_⟩) (λhm=>?_)
   ·have h4:=(Ow.at 2 rfl h3);refine Ow.app h4 (by simp) (by simp;omega) (by simp;omega) λf' u4 h5=>?_;refine h5.st 2 rfl (by simp) λu6 h6=>ca _ ⟨f',?_⟩;rw[zv bZ,hs,hht,if_pos hm,map_append,length_append];refine Ow.sK (P:=[Pt b8 45 [.list 1 f' ((et e (ms.take k)).map f_++[ms[k].1].map f_)],e_ f' ((et e (ms.take k)).length+[ms[k].1].length) 1,Pt b6 78 e.pv,AM.cr mm (ms.map iL),AE.cr me ((bY aw aG t es).map mY),Pt n 294 [pP me 0,pP mm 0]]) ?_;have h7:Ow (e_ f' ((et e (ms.take k)).length+1) 1::AT.At ms[k].2.b (bY AT.ck AT.key (AT.key e) ms[k].2.l)::Pt b8 45 [.list 1 f' ((et e (ms.take k)).map f_++[[pI ms[k].1]])]::Pt b6 78 e.pv::AM.cr mm (ms.map iL)::AE.cr me ((bY aw aG t es).map mY)::Pt n 294 [pP me 0,pP mm 0]::((((ms.take k).map (oX t)).map dn++(ms.drop (k+1)).map dn)++L)) u6:=h6;exact h7.swap.tail λ_ h=>h.swap
   ·refine ca _ ⟨fl,?_⟩;rw[zv bZ,hs,hht,if_neg (by simp[hm]),append_nil];exact Ow.sK (P:=[Pt b8 45 [.list 1 fl ((et e (ms.take k)).map f_)],e_ fl (et e (ms.take k)).length 1,Pt b6 78 e.pv,AM.cr mm (ms.map iL),AE.cr me ((bY aw aG t es).map mY),Pt n 294 [pP me 0,pP mm 0]]) h3
  ·rintro u ⟨fl,hO⟩;rw[pG,take_length,drop_length,append_nil]at hO;refine⟨_,_,hO.rd 0 rfl (by simp),jB e he u fl ?_⟩;refine bB.shut (me:=me) (mm:=mm) ?_;rw[Qs];have h4:=Ow.at 2 rfl hO.drop.drop.drop;exact h4.tail λ_ h=>h.swap
  ·intro _ _ h;exact h.elim
 ·rw[Ol]at hy;refine⟨_,_,_,_,_,_,_,_,_,_,_,_,_,rfl,λb6 Fo=>(h1.new 78 z12 Fo).st 0 rfl (by simp) λu2 h2=>ab.t rfl (Gy (map_none hy) u2 (bB.shut (Ow.swap h2.drop)))⟩
@[reducible] def inF(n:Nat)(k:Int):PV:=.fn (.func 280) [] [.bj [pP n 0] 0,.bj [pI k] 0]
theorem cIn(n:Nat)(k:Int):Pure prog 234 [pP n 0,pI k] (inF n k):=au.of (Ce.c rfl)
def US(k:Int)(ms:dg):List aj:=((aL aw bO k ms).map λx=>x.2.l).getD []
theorem abQ(n:Nat)(k:Int){es:List aj}{ms:dg}(hI:dr es ms):gG prog (inF n k) ((US k ms).map λe=>[.agg e.pv]) (bB n es ms) (bB n es ms):=by
 refine gG.mk λfy ya yb I S C μ hy hO h0 cO=>?_;show aa _ _ [.fn fy ya yb,.bj [pP n 0] 0,.bj [pI k] 0] _ _;obtain⟨me,mm,h⟩:=bB.open_ hO;have hlm:=hI.lm;refine yh.c λb3 Kr=>?_;have O1:=h.new 171 [.fn fy ya yb] Kr;refine⟨λs u=>∃b4,s.1=some ⟨b4,0,none⟩/\((∃x,aL aw bO k ms=some x/\s.2=true/\Ow (Pt b4 292 (cc x.2.c++[pI x.2.aM,pP x.2.b 0])::AM.cr mm (ms.map iL)::Pt b3 171 [.fn fy ya yb]::Pt n 294 [pP me 0,pP mm 0]::AE.cr me (es.map mY)::(ms.map dn++[C])) u)\/(aL aw bO k ms=none/\s.2=false/\Ow (AM.cr mm (ms.map iL)::Pt b3 171 [.fn fy ya yb]::Pt n 294 [pP me 0,pP mm 0]::AE.cr me (es.map mY)::(ms.map dn++[C])) u)),⟨_,rfl,_,O1.rd 1 rfl (by simp),_,rfl,?_,λb4 Gz=>?_⟩,?_⟩
 ·refine AM.gO (Ow.at 3 rfl O1) hI.um (by simp;omega) k (λy μ' hy h'=>?_) (λμ' hy h'=>?_)
  ·rw[getM]at hy;obtain⟨x,hx,rfl⟩:=map_eq_some_iff.1 hy;exact⟨_,_,_,_,_,_,_,_,_,_,_,_,_,rfl,λb4 Gz=>(h'.new 292 _ Gz).st 0 rfl (by simp) λu2 h2=>⟨b4,rfl,.inl ⟨x,hx,rfl,h2⟩⟩⟩
  ·rw[getM]at hy;exact⟨_,_,_,_,_,_,_,_,_,_,_,_,_,rfl,λb4 Gz=>(h'.new 292 _ Gz).st 0 rfl (by simp) λu2 h2=>⟨b4,rfl,.inr ⟨map_none hy,rfl,h2.drop⟩⟩⟩
 ·have O2:=O1.new 292 [pI 0,pB false,pS ⟨#[]⟩,.list 6 .nil [],.list 6 .nil [],pB false,.list 7 .nil [],pI 0,.raw (.pointer none)] Gz;refine AM.gO (Ow.at 4 rfl O2) hI.um (by simp;omega) k (λy μ' hy h'=>?_) (λμ' hy h'=>?_)
  ·rw[getM]at hy;obtain⟨x,hx,rfl⟩:=map_eq_some_iff.1 hy;exact⟨_,_,_,_,_,_,_,_,_,_,_,_,_,rfl,h'.st 1 rfl (by simp) λu2 h2=>⟨b4,rfl,.inl ⟨x,hx,rfl,Ow.swap h2⟩⟩⟩
  ·rw[getM]at hy;exact⟨_,_,_,_,_,_,_,_,_,_,_,_,_,rfl,h'.st 1 rfl (by simp) λu2 h2=>⟨b4,rfl,.inr ⟨map_none hy,rfl,(Ow.swap h2).drop⟩⟩⟩
 ·rintro⟨_,q⟩ u ⟨b4,rfl,⟨x,hx,rfl,hO⟩|⟨hx,rfl,hO⟩⟩
  ·obtain⟨zC,hxk⟩:=(a_ ar hI.mX).1 hx;have WQ:=hI.ul zC;have fE:US k ms=x.2.l:=by unfold US;rw[hx];rfl
   rw[fE]at cO |-;refine ab.f rfl ⟨_,hO.rd 0 rfl (by simp),(AT.pn x.2.b).call ⟨_,_,_,rfl,?_⟩⟩;obtain⟨A,B,eAB,_,_⟩:=hI.mX.at_ ar zC
   have e2:ms.map dn=A.map dn++dn x::B.map dn:=by conv=>lhs;rw[eAB]
                                                  simp
   have sv:=hO.drop;rw[e2]at sv;have gg:=Ow.pick (P:=[AM.cr mm (ms.map iL),Pt b3 171 [.fn fy ya yb],Pt n 294 [pP me 0,pP mm 0],AE.cr me (es.map mY)]) sv;refine bu.own (AT.dY x.2.b x.2.l (by omega)) gg (λi=>Ow [Pt b3 171 [.fn fy ya yb],I i]) (λcd u=>cd=.ret/\Ow [S] u) (λi=>eC.own _) (λcd=>eC.and (eC.own _)) (λμ' h'=>?_) ?_ ?_ ?_
   ·have h3:=Ow.sK (P:=[AM.cr mm (ms.map iL),Pt b3 171 [.fn fy ya yb],Pt n 294 [pP me 0,pP mm 0],AE.cr me (es.map mY)]) h';have h4:Ow (Pt b3 171 [.fn fy ya yb]::(AM.cr mm (ms.map iL)::Pt n 294 [pP me 0,pP mm 0]::AE.cr me (es.map mY)::(ms.map dn++[C]))) μ':=by
     rw[e2];exact Ow.swap h3
    exact h4.tail λν hν=>h0 ν (th hν)
   ·rintro i hi u1 R hO ca iE;have tD:i<x.2.l.length:=by simpa using hi
    have fC:=cO i (by simpa using tD);rw[getElem_map]at fC |-;refine⟨_,_,_,_,_,_,_,_,_,_,_,_,rfl,_,_,_,hO.rd 0 rfl (by simp),Ow.yQ hO.swap (λν hν=>fC ν hν) λv μ' RS=>?_⟩;rcases RS.sR with⟨rfl,h⟩|⟨rfl,h⟩
    ·exact⟨true,rfl,ab.f rfl (ca _ h.swap)⟩
    ·exact⟨false,rfl,ab.t rfl (iE _ _ ⟨rfl,h.swap.drop⟩)⟩
   ·intro u1 hO;rw[length_map]at hO;exact .inl (by rw[length_map];exact hO.drop)
   ·rintro cd u1 ⟨rfl,h⟩;exact .inr h
  ·have fE:US k ms=[]:=by unfold US;rw[hx];rfl
   rw[fE];refine ab.t rfl (.inl (h0 u (th (Ow.swap hO).drop)))
theorem Hc{f:PV}{items:Lq}{A A':aR}(L:List aR)(h:gG prog f items A A'):gG prog f items (Ow (A::L)) (Ow (A'::L)):=by
 refine⟨h.1,λfy ya yb I S C μ hy hO h0 cO=>?_⟩;have h1:Ow (A::(L++[C])) μ:=hO.nest;exact h.2 fy ya yb I S (Ow (L++[C])) μ hy (h1.tail λ_ h=>Ow.one h) (λμ' h'=>h0 μ' (Ow.pack (L1:=A'::L) (h'.tail λ_ h=>h.Uy))) cO
theorem LF{f:PV}{items:Lq}{A A' B B':aR}(h:gG prog f items A A')(h1:∀μ,B μ->A μ)(h2:∀μ,A' μ->B' μ):gG prog f items B B':=
 ⟨h.1,λfy ya yb I S C μ hy hO h0 cO=>h.2 fy ya yb I S C μ hy (hO.imp h1) (λμ' h'=>h0 μ' (h'.imp h2)) cO⟩
structure NC where
 T:Int
 M:Int
 root:Nat
 al:Nat
 el:Nat
 id:Nat
 pr:Nat
@[reducible] def NC.pv(x:NC):List PV:=[pI x.T,pI x.M,pP x.root 0,pP x.al 0,pP x.el 0,pP x.id 0,pP x.pr 0]
abbrev pq:=List (Sym×Nat×List aj)
def oS(x:Sym×Nat×List aj):RI.El:=(x.1,some ⟨x.2.1,0,none⟩)
def dQ(x:Sym×Nat×List aj):aR:=RT.At x.2.1 x.2.2
def jF(x:Sym×Nat×List aj):Sym:=x.1
def gC(m:Nat)(ids:pq):aR:=Ow (RI.cr m (ids.map oS)::ids.map dQ)
structure iV(es:List aj)(ids:pq):Prop where
 up:b_ fF jF ids
 has:∀x∈ids,x.2.2=es.filter λe=>eU e.id x.1
 one:∀e∈es,∃x∈ids,x.1=e.id
 some_:∀x∈ids,x.2.2≠[]
 le:ids.length<=es.length
theorem Kw(k:Sym)(ids:pq):aL RI.ck RI.key (RI.key (k,RI.z)) (ids.map oS)=(aL fF jF k ids).map oS:=nG
theorem iV.u{es:List aj}{ids:pq}(h:iV es ids):b_ RI.ck RI.key (ids.map oS):=b_.map h.up
def OL(s:Sym)(es:List aj):List aj:=es.filter λe=>eU e.id s
theorem iV.get{es:List aj}{ids:pq}(h:iV es ids)(s:Sym):((aL fF jF s ids).map λx=>x.2.2).getD []=OL s es:=by
 cases hg:aL fF jF s ids with
 |some x=>
  obtain⟨hx,hk⟩:=(a_ bC h.up).1 hg;have bZ:x.1=s:=hk;show x.2.2=_;rw[h.has x hx,bZ];rfl
 |none=>
  have hn:=(bz bC).1 hg;show[]=_;unfold OL;symm;rw[List.filter_eq_nil_iff];intro e he hs;obtain⟨x,hx,hk⟩:=h.one e he;exact hn x hx (hk.trans (cz.1 hs))
def sN(n al:Nat)(k:Int)(o:Option Sym):PV:=
 match o with
 |none=>inF al k
 |some s=>.fn (.func 235) [] [.bj [pP n 0] 0,.bj s.pv 0]
theorem VJ{n:Nat}{x:NC}{μ:Mem}(hn:Le n x.pv μ)(c:ae)(fa fv fc fl:Fl)(l:List aP.Bind)(hl:l.length<=1000000)(k:Int):
  aa prog 168 [pP n 0,.agg [pI c.kind,pB c.goal,pS c.id,.list 6 fa (c.attr.map Test.pv),.list 6 fv (c.value.map Test.pv),pB c.acc,.list 7 fc (c.conds.map ae.pv)],.list 4 fl (l.map Bind.pv),pI k] μ λp μ'=>yU μ μ'/\p=sN n x.al k (gi l c.id):=by
 refine aa.freeze (K:=λv μ'=>yU μ μ'/\((gi l c.id=none/\v=inF x.al k)\/∃s b,gi l c.id=some s/\μ b=none/\v=.fn (.func 235) [] [.bj [pP n 0] 0,pP b 0]/\μ' b=some (.cells 60 s.pv))) (xX.c ?_) ?_
 ·refine(kj fl l hl c.id).call ?_;cases hg:gi l c.id with
  |none=>
   refine⟨_,_,_,_,rfl,λb9 hb=>⟨_,_,Mem.ao _ _ _,by simp,?_⟩⟩;rw[Mem.set_set];have Vk:=yU.new hb (some (.cells 60 (dx [pI 0,pS ⟨#[]⟩,pI 0] 0 [pI 0,pS ⟨#[]⟩,pI 0])));exact ab.t rfl ⟨_,rfl,_,(hn.adR Vk).rd (by simp),(cIn x.al k).call ⟨_,_,_,rfl,Vk,.inl ⟨rfl,rfl⟩⟩⟩
  |some s=>
   refine⟨_,_,_,_,rfl,λb9 hb=>⟨_,_,Mem.ao _ _ _,by simp,?_⟩⟩;rw[Mem.set_set];have Vk:=yU.new hb (some (.cells 60 (dx [pI 0,pS ⟨#[]⟩,pI 0] 0 [pI s.k,pS s.t,pI s.n])));exact ab.f rfl ⟨Vk,.inr ⟨s,b9,rfl,hb,rfl,Mem.ao _ _ _⟩⟩
 ·rintro v μ' ⟨Vk,⟨hg,rfl⟩|⟨s,b,hg,hb0,rfl,hb⟩⟩
  ·refine⟨_,μ',[],λZ u r hg' hr=>?_,λb o h=>⟨h,by simp⟩,Vk,by rw[hg,sN]⟩;exact hr.mono (gW (hg'.sub λx o hx=>by simp at hx))
  ·refine⟨_,λy=>if y=b then none else μ' y,[b],λZ u r hg' hr=>?_,λy o h=>?_,λy hy=>?_,by rw[hg,sN]⟩
   ·obtain⟨fv,cv,rfl,h1,h2⟩:=hr.ofFn;obtain⟨v1,_,rfl,_,q1,h2⟩:=h2.inv;obtain⟨v2,_,rfl,_,q2,h2⟩:=h2.inv;obtain rfl:=h2.mT;obtain rfl:=h1.mT;have gs:aP.Good Z u (λy=>if y∈[b]then μ' y else none):=hg'.sub λy o hy=>by
     by_cases hm:y∈[b]
     ·simpa[hm]using hy
     ·simp[hm]at hy
    exact bn.Eo (bn.nil _) (bn.cons rfl (q1.mono (gW gs)) (bn.cons rfl (RX hg' hb rfl q2) (bn.nil _)))
   ·have h:(if y=b then none else μ' y)=some o:=h;by_cases e:y=b
    ·rw[if_pos e]at h;cases h
    ·rw[if_neg e]at h;exact⟨h,by simpa using e⟩
   ·have aQ:y≠b:=by rintro rfl;exact hy hb0
    show(if y=b then none else μ' y)=μ y;rw[if_neg aQ];exact Vk y hy
theorem FL{n:Nat}{x:NC}{μ:Mem}(hn:μ n=some (.cells 137 x.pv))(c:ae)(fa fv fc fl:Fl)(l:List aP.Bind)(hl:l.length<=1000000)(k:Int){K:Kq}(hK:K (sN n x.al k (gi l c.id)) M0):
  dM prog 168 [pP n 0,.agg [pI c.kind,pB c.goal,pS c.id,.list 6 fa (c.attr.map Test.pv),.list 6 fv (c.value.map Test.pv),pB c.acc,.list 7 fc (c.conds.map ae.pv)],.list 4 fl (l.map Bind.pv),pI k] μ K:=
 dM.agb (VJ (Yf hn) c fa fv fc fl l hl k) λp hp=>by rw[hp];exact hK
def PE(es:List aj)(ms:dg)(k:Int)(o:Option Sym):List aj:=
 match o with
 |none=>US k ms
 |some s=>OL s es
def an(n:Nat)(x:NC)(es:List aj)(ms:dg)(ids:pq):aR:=Ow [Pt n 137 x.pv,bB x.al es ms,gC x.id ids]
theorem Uf{n:Nat}{x:NC}{es:List aj}{ids:pq}(hI:iV es ids)(hle:es.length<1000000)(s:Sym):
  gG prog (.fn (.func 235) [] [.bj [pP n 0] 0,.bj s.pv 0]) ((OL s es).map λe=>[.agg e.pv]) (Ow [Pt n 137 x.pv,gC x.id ids]) (Ow [Pt n 137 x.pv,gC x.id ids]):=by
 refine gG.mk λfy ya yb I S C μ hy hO h0 cO=>?_;show aa _ _ [.fn fy ya yb,.bj [pP n 0] 0,.bj s.pv 0] _ _;have hlen:=hI.le;have sv:Ow (RI.cr x.id (ids.map oS)::Pt n 137 x.pv::(ids.map dQ++[C])) μ:=by
  have h1:Ow (Pt n 137 x.pv::gC x.id ids::[C]) μ:=hO.nest;exact((h1.swap).nest (L1:=RI.cr x.id (ids.map oS)::ids.map dQ)).tail λν hν=>(Ow.comm (L1:=ids.map dQ) hν).tail λν' h'=>Ow.comm (L1:=[C]) h'
 have back:∀ν,Ow (RI.cr x.id (ids.map oS)::Pt n 137 x.pv::(ids.map dQ++[C])) ν->Ow [I 0] ν:=λν hν=>h0 ν (by
  have h1:Ow ((RI.cr x.id (ids.map oS)::ids.map dQ)++(Pt n 137 x.pv::[C])) ν:=hν.tail λν1 h1=>by
   have h2:Ow (Pt n 137 x.pv::(([C]:List aR)++ids.map dQ)) ν1:=h1.tail λν2 h2=>Ow.comm (L1:=ids.map dQ) h2
   exact Ow.comm (L1:=Pt n 137 x.pv::[C]) h2
  exact Ow.pack (L1:=[Pt n 137 x.pv,gC x.id ids]) (Ow.swap (Ow.pack (L1:=RI.cr x.id (ids.map oS)::ids.map dQ) h1)))
 refine tY.c λb3 Kr=>?_;have O1:=sv.new 171 [.fn fy ya yb] Kr;refine⟨_,rfl,_,O1.rd 2 rfl (by simp),_,_,_,rfl,?_⟩;refine RI.gO (Ow.at 1 rfl O1) hI.u (by simp;omega) s (λy μ' hy h'=>?_) (λμ' hy h'=>?_)
 ·rw[Kw]at hy;obtain⟨z,hz,rfl⟩:=map_eq_some_iff.1 hy;have hb:=hI.get s;rw[hz]at hb;have hb:z.2.2=OL s es:=hb;obtain⟨Pe,Fb⟩:=(a_ bC hI.up).1 hz;obtain⟨A,B,eAB,_,_⟩:=hI.up.at_ bC Pe
  have e2:ids.map dQ=A.map dQ++dQ z::B.map dQ:=by conv=>lhs;rw[eAB]
                                                  simp
  refine⟨_,_,rfl,ab.f rfl ((RT.pn z.2.1).call ⟨_,_,_,rfl,?_⟩)⟩;have h2:Ow (RI.cr x.id (ids.map oS)::Pt b3 171 [.fn fy ya yb]::Pt n 137 x.pv::(ids.map dQ++[C])) μ':=h';rw[e2]at h2;have gg:=Ow.pick (P:=[RI.cr x.id (ids.map oS),Pt b3 171 [.fn fy ya yb],Pt n 137 x.pv]) h2;have DH:z.2.2.length<=es.length:=by rw[hb];exact List.length_filter_le _ _
  rw[<- hb]at cO |-;refine bu.own (RT.dY z.2.1 z.2.2 (by omega)) gg (λi=>Ow [Pt b3 171 [.fn fy ya yb],I i]) (λcd u=>cd=.ret/\Ow [S] u) (λi=>eC.own _) (λcd=>eC.and (eC.own _)) (λμ' h'=>?_) ?_ ?_ ?_
  ·have h3:=Ow.sK (P:=[RI.cr x.id (ids.map oS),Pt b3 171 [.fn fy ya yb],Pt n 137 x.pv]) h';have h4:Ow (Pt b3 171 [.fn fy ya yb]::(RI.cr x.id (ids.map oS)::Pt n 137 x.pv::(ids.map dQ++[C]))) μ':=by
    rw[e2];exact Ow.swap h3
   exact h4.tail back
  ·rintro i hi u1 R hO ca iE;have tD:i<z.2.2.length:=by simpa using hi
   have fC:=cO i (by simpa using tD);rw[getElem_map]at fC |-;refine⟨_,_,_,_,_,_,_,_,_,_,_,_,rfl,_,_,_,hO.rd 0 rfl (by simp),Ow.yQ hO.swap (λν hν=>fC ν hν) λv μ' RS=>?_⟩;rcases RS.sR with⟨rfl,h⟩|⟨rfl,h⟩
   ·exact⟨true,rfl,ab.f rfl (ca _ h.swap)⟩
   ·exact⟨false,rfl,ab.t rfl (iE _ _ ⟨rfl,h.swap.drop⟩)⟩
  ·intro u1 hO;rw[length_map]at hO;exact .inl (by rw[length_map];exact hO.drop)
  ·rintro cd u1 ⟨rfl,h⟩;exact .inr h
 ·rw[Kw]at hy;have hz:aL fF jF s ids=none:=map_none hy;have hb:=hI.get s;rw[hz]at hb;have hb:[]=OL s es:=hb;rw[<- hb]at cO |-;have h2:Ow (RI.cr x.id (ids.map oS)::Pt b3 171 [.fn fy ya yb]::Pt n 137 x.pv::(ids.map dQ++[C])) μ':=h';exact⟨_,_,rfl,ab.t rfl (.inl (back _ h2.swap.drop))⟩
theorem P_{n:Nat}{x:NC}{es:List aj}{ms:dg}{ids:pq}(hA:dr es ms)(hI:iV es ids)(k:Int)(o:Option Sym):
  gG prog (sN n x.al k o) ((PE es ms k o).map λe=>[.agg e.pv]) (an n x es ms ids) (an n x es ms ids):=by
 cases o with
 |none=>
  refine LF (Hc [Pt n 137 x.pv,gC x.id ids] (abQ x.al k hA)) (λμ h=>Ow.swap h) (λμ h=>Ow.swap h)
 |some s=>
  refine LF (Hc [bB x.al es ms] (Uf (x:=x) (n:=n) hI hA.le s)) (λμ h=>?_) (λμ h=>?_)
  ·have h1:Ow [Pt n 137 x.pv,bB x.al es ms,gC x.id ids] μ:=h;exact Ow.pack (L1:=[Pt n 137 x.pv,gC x.id ids]) (h1.tail λ_ h=>h.swap)
  ·have h1:Ow [Pt n 137 x.pv,gC x.id ids,bB x.al es ms] μ:=Ow.nest (L1:=[Pt n 137 x.pv,gC x.id ids]) h;exact h1.tail λ_ h=>h.swap
structure bW where
 tags:List Int
 binds:List Bind
@[reducible] def bW.pv(t:bW):List PV:=[.list 1 .sh (t.tags.map λx=>[pI x]),.list 4 .sh (t.binds.map Bind.pv)]
def bd:List Int->List Int->Int
 |[],b=> -(b.length:Int)
 |a::l,[]=>(l.length:Int)+1
 |a::l,b::r=>if a=b then bd l r else a-b
theorem sU:∀a b:List Int,bd a b=0↔a=b
 |[],[]=>by simp[bd]
 |[],b::r=>by simp only[bd,length_cons];constructor<;>intro h<;>first|omega|cases h
 |a::l,[]=>by simp only[bd];constructor<;>intro h<;>first|omega|cases h
 |a::l,b::r=>by
  simp only[bd]
  split
  ·rename_i e;rw[sU l r];simp[e]
  ·rename_i e;constructor<;>intro h<;>first|omega|(cases h;exact absurd rfl e)
theorem sV:∀a b:List Int,bd a b<0↔0<bd b a
 |[],[]=>by simp[bd]
 |[],b::r=>by simp only[bd,length_cons];constructor<;>intro h<;>omega
 |a::l,[]=>by simp only[bd,length_cons];constructor<;>intro h<;>omega
 |a::l,b::r=>by
  simp only[bd]
  by_cases e:a=b
  ·subst e;simp only[if_true];exact sV l r
  ·rw[if_neg e,if_neg (Ne.symm e)];omega
theorem pW:∀a b d:List Int,bd a b<0->bd b d<0->bd a d<0
 |[],[],d,h,_=>by simp[bd]at h
 |[],b::r,[],_,k=>by simp only[bd]at k;omega
 |[],b::r,d::s,_,_=>by simp only[bd,length_cons];omega
 |a::l,[],d,h,_=>by simp only[bd]at h;omega
 |a::l,b::r,[],_,k=>by simp only[bd]at k;omega
 |a::l,b::r,d::s,h,k=>by
  simp only[bd]at h k |-
  by_cases e1:a=b
  ·subst e1
   simp only[if_true]at h
   by_cases e2:a=d
   ·subst e2
    simp only[if_true]at k |-
    exact pW l r s h k
   ·rw[if_neg e2]at k |-;exact k
  ·rw[if_neg e1]at h
   by_cases e2:b=d
   ·subst e2;rw[if_neg e1];exact h
   ·rw[if_neg e2]at k;rw[if_neg (by omega)];omega
theorem As:∀(k:Nat) (a b:List Int),k<=a.length->k<=b.length->a.take k=b.take k->bd a b=bd (a.drop k) (b.drop k)
 |0,_,_,_,_,_=>rfl
 |k+1,[],_,h,_,_=>by simp at h
 |k+1,_::_,[],_,h,_=>by simp at h
 |k+1,a::l,b::r,h1,h2,h=>by
  simp only[List.take_succ_cons,List.cons.injEq]at h
  simp only[bd,List.drop_succ_cons]
  rw[if_pos h.1]
  exact As k l r (by simpa using h1) (by simpa using h2) h.2
structure Gb(l:List Int):Prop where
 le:l.length<=1000000
 pos:∀x∈l,0<=x/\x<9223372036854775808
theorem Eu{l:List Int}{k:Nat}(hk:k<l.length):(l.map λx=>[pI x])[toNat (k:Int)]?=some [pI l[k]]:=by
 rw[toNat_natCast,getElem?_map,getElem?_eq_getElem hk];rfl
theorem ad3(f g:Fl){a b:List Int}(ha:Gb a)(hb:Gb b):Pure prog 111 [.list 1 f (a.map λx=>[pI x]),.list 1 g (b.map λx=>[pI x])] (pI (bd a b)):=by
 refine au.of (IU.c ?_);have hla:=ha.le;have hlb:=hb.le;refine⟨λ_ u=>u=M0/\a.take (min a.length b.length)=b.take (min a.length b.length),?_,?_⟩
 ·refine ak.up (min a.length b.length) (by omega) (λk u=>u=M0/\a.take k=b.take k) ⟨rfl,rfl⟩ ?_;rintro k u next hk ⟨rfl,hI⟩ av
  simp only[length_map];by_cases h1:k<a.length
  ·by_cases h2:k<b.length
   ·refine ab.t (by simpa using h1) (ab.t (by simpa using h2) ⟨by omega,_,Eu h1,_,rfl,by omega,_,Eu h2,_,rfl,?_⟩);have hda:bd a b=bd (a.drop k) (b.drop k):=As k a b (by omega) (by omega) hI;rw[List.drop_eq_getElem_cons h1,List.drop_eq_getElem_cons h2]at hda;simp only[bd]at hda;refine ab.mk (λe=>?_) (λe=>?_)
    ·refine⟨by omega,_,Eu h1,_,rfl,by omega,_,Eu h2,_,rfl,?_⟩;have aQ:a[k]≠b[k]:=by simpa using e
     rw[if_neg aQ]at hda;have p1:=ha.pos _ (getElem_mem h1);have p2:=hb.pos _ (getElem_mem h2);rw[hda,aD (by omega) (by omega)];rfl
    ·have he:a[k]=b[k]:=by simpa using e
     refine av (by omega) _ ⟨rfl,?_⟩;rw[take_add_one,take_add_one,hI,getElem?_eq_getElem h1,getElem?_eq_getElem h2,he]
   ·have:k=min a.length b.length:=by omega
    exact ab.t (by simpa using h1) (ab.f (by simp;omega) ⟨trivial,by rw[<- this];exact hI⟩)
  ·have:k=min a.length b.length:=by omega
   exact ab.f (by simp;omega) ⟨trivial,by rw[<- this];exact hI⟩
 ·rintro _ u ⟨rfl,hI⟩;simp only[length_map];have:=As (min a.length b.length) a b (by omega) (by omega) hI;rw[this,aD (by omega) (by omega)];by_cases h:a.length<=b.length
  ·rw[Nat.min_eq_left h,drop_length];simp only[bd,length_drop];exact congrArg pI (by omega)
  ·rw[Nat.min_eq_right (by omega),drop_length];cases hd:a.drop b.length with
   |nil=>have:=congrArg List.length hd;simp at this;omega
   |cons x l=>
    have:=congrArg List.length hd;simp only[length_drop,length_cons]at this;simp only[bd];exact congrArg pI (by omega)
namespace RK
abbrev El:={t:bW // Gb t.tags}
@[reducible] def pv(x:El):List PV:=x.1.pv
@[reducible] def arg(x:El):PV:=.agg x.1.pv
def key(x:El):List Int:=x.1.tags
abbrev ck:List Int->List Int->Int:=bd
theorem hc:m_ ck:=⟨sU,sV,pW⟩
theorem tR(a b:El):Pure prog 333 [arg a,arg b] (pI (ck (key a) (key b))):=by
 refine au.of (qN.c ?_);exact(ad3 _ _ a.2 b.2).call ⟨_,rfl,rfl⟩
@[reducible] noncomputable def D:SD:=⟨prog,318,193,2,48,333,λQ=>∃xaf xa xbf xb,Q [.list 1 xaf xa,.list 4 xbf xb],.agg,[.list 1 .nil [],.list 4 .nil []]⟩
abbrev At(b:Nat)(l:List El):aR:=cb 318 193 2 b (l.map pv)
theorem mh:MX D pv arg key ck:=⟨λx Q h=>⟨_,_,_,_,h⟩,λ_=>rfl,λ_=>rfl,λ_=>rfl,λ_=>rfl,hc,tR,λv=>by kernel_rfl,rfl,by decide,by decide⟩
theorem dc{x:El}{a0:Option Addr}{u0:Mem}{K:Kq}(h:D.find a0 u0 K (arg x)):aa prog 257 [pA a0,arg x] u0 K:=VC [3] [(2,⟨[(6,.one (.raw (.int .i64))),(7,.one (.raw (.int .i64)))],[]⟩)] [] [] [] [] [] func257 h
theorem gK{a0:Option Addr}{u0:Mem}{K:Kq}(h:D.own a0 u0 K):aa prog 258 [pA a0] u0 K:=VC [] [] [] [] [] [] [] func258 h
theorem lD{x:El}{a0:Option Addr}{u0:Mem}{K:Kq}(h:D.put a0 u0 K (pv x) (arg x) 257 258):aa prog 198 [pA a0,arg x] u0 K:=VC [3] [(9,⟨[(7,.one (.raw (.int .i64)))],[]⟩)] [] [] [] [] [23,32,43,48,57] func198 h
def fL:=mh.fL dc gK lD
theorem lE{fl:Fl}{l:Lq}{u0:Mem}{K:Kq}(h:D.new u0 K 198 l):aa prog 134 [.list 2 fl l] u0 K:=VC [5] [(3,⟨[(10,.one (.raw (.int .i64)))],[]⟩)] [] [] [] [] [] func134 h
def gj:=mh.gj fL lE
theorem lF{a0:Option Addr}{a1:Int}{a2:Fn}{Cm Ck:List PV}{u0:Mem}{K:Kq}(h:D.from_ a0 u0 K a1 a2 Cm Ck):aa prog 200 [pA a0,pI a1,.fn a2 Cm Ck] u0 K:=VC [] [(3,⟨[(7,.one (.raw (.int .i64)))],[]⟩)] [] [] [] [] [] func200 h
theorem lH{a0:Fn}{Co Cn c0:List PV}{u0:Mem}{K:Kq}(h:D.zc u0 K 200 a0 Co Cn c0):aa prog 199 [.fn a0 Co Cn,.bj c0 0] u0 K:=VC [] [] [] [] [] [] [] func199 h
@[reducible] def qJ(b:Nat):PV:=.fn (.func 199) [] [.bj [pP b 0] 0]
theorem pn(b:Nat):Pure prog 135 [pP b 0] (qJ b):=au.of (mf.c rfl)
theorem dY(b:Nat)(l:List El)(hl:l.length<=4000000000000000000):gG prog (qJ b) (l.map λx=>[arg x]) (At b l) (At b l):=mh.dY lH lF b l hl
end RK
theorem Ih{α β:Type}{f g:α->Option β}:∀{l:List α},(∀x∈l,f x=g x)->l.filterMap f=l.filterMap g
 |[],_=>rfl
 |x::l,h=>by rw[List.filterMap_cons,List.filterMap_cons,h x (by simp),Ih λy hy=>h y (by simp[hy])]
theorem kI{c:ae}{l:List aP.Bind}{es:List aj}{p:aj->Bool}(h:∀e,(c_ c e l).isSome->p e=true):aX c l (es.filter p)=aX c l es:=by
 unfold aX;rw[List.filterMap_filter];refine Ih λe _=>?_;cases hp:p e with
 |true=>simp
 |false=>
  cases hc:c_ c e l with
  |none=>simp
  |some r=>have:=h e (by rw[hc];rfl);rw[hp]at this;cases this
theorem NM{t:Test}{s:Sym}{l r:List aP.Bind}(hv:aF t.var ⟨#[]⟩=true)(h:met t s l=some r)(l':List aP.Bind):met t s l'=some l':=by
 have hv':=bF.1 hv;unfold met at h |-;by_cases h8:t.rel=8
 ·rw[if_pos h8]at h |-;split at h
  ·rename_i ha;rw[if_pos ha]
  ·cases h
 ·rw[if_neg h8]at h |-;by_cases h1:t.rel<1\/t.rel>7
  ·rw[if_pos h1]at h;cases h
  ·rw[if_neg h1,if_pos hv']at h |-;split at h
   ·rename_i ha;rw[if_pos ha]
   ·cases h
theorem tU:∀(ts:List Test) (s:Sym) (l r:List aP.Bind),fT ts s l=some r->∀l',fT (gX ts) s l'=some l'
 |[],_,_,_,_,_=>rfl
 |t::ts,s,l,r,h,l'=>by
  simp only[fT,bind_eq_some_iff]at h
  obtain⟨l1,h1,h2⟩:=h
  have ih:=tU ts s l1 r h2 l';unfold gX at ih |-;rw[filter_cons];split
  ·rename_i hv;simp only[fT];rw[NM hv h1 l'];exact ih
  ·exact ih
theorem xE{c:ae}{e:aj}{l:List aP.Bind}(h:(c_ c e l).isSome):bg (bt c) e=true:=by
 obtain⟨r,h⟩:=Option.isSome_iff_exists.1 h;unfold c_ at h;split at h
 ·rename_i hc;simp only[bind_eq_some_iff]at h;obtain⟨l1,_,l2,h2,h3⟩:=h;unfold bg;unfold c_;rw[if_pos (show((WM (bt c)).kind=1\/(WM (bt c)).kind=2)/\((WM (bt c)).goal=true->e.goal=true)/\(WM (bt c)).acc=e.acc from⟨.inl rfl,hc.2.1,hc.2.2⟩)];have hm:met (jo (WM (bt c)).id) e.id []=some [⟨⟨#[120]⟩,e.id⟩]:=rfl;rw[hm];show((fT (gX c.attr) e.attr _).bind λl2=>fT (gX c.value) e.value l2).isSome=true;rw[tU _ _ _ _ h2];show(fT (gX c.value) e.value _).isSome=true;rw[tU _ _ _ _ h3];rfl
 ·cases h
theorem VD{c:ae}{e:aj}{l:List aP.Bind}{s:Sym}(Bn:c.id≠⟨#[]⟩)(hg:gi l c.id=some s)(h:(c_ c e l).isSome):eU e.id s=true:=by
 obtain⟨r,h⟩:=Option.isSome_iff_exists.1 h;unfold c_ at h;split at h
 ·simp only[bind_eq_some_iff]at h;obtain⟨l1,h1,_⟩:=h;unfold met at h1;rw[if_neg (show ¬(jo c.id).rel=8 from by show ¬(1:Int)=8;omega),if_neg (show ¬((jo c.id).rel<1\/(jo c.id).rel>7)from by show ¬((1:Int)<1\/(1:Int)>7);omega),if_neg (show ¬(jo c.id).var=⟨#[]⟩from Bn)]at h1;rw[show gi l (jo c.id).var=some s from hg]at h1;simp only at h1;split at h1
  ·rename_i hh;exact hh
  ·cases h1
 ·cases h
def dB(ms:dg)(k:Int)(c:ae):Prop:=∃x,aL aw bO k ms=some x/\x.2.c=bt c
theorem JB{es:List aj}{ms:dg}(hA:dr es ms){c:ae}(Bn:c.id≠⟨#[]⟩){k:Int}(hm:dB ms k c)(l:List aP.Bind):aX c l (PE es ms k (gi l c.id))=aX c l es:=by
 cases hg:gi l c.id with
 |none=>
  obtain⟨x,hx,hc⟩:=hm;have fE:US k ms=x.2.l:=by unfold US;rw[hx];rfl
  show aX c l (US k ms)=_;rw[fE,hA.has x ((a_ ar hA.mX).1 hx).1,hc];exact kI λe he=>xE he
 |some s=>exact kI λe he=>VD Bn hg he
mutual
def iQ(es:List aj):ae->List aP.Bind->List (List aP.Bind)
 | .mk k g i a v ac cs,b=>if k=1 then(aX (.mk k g i a v ac cs) b es).map (·.2)else if k=2 then(if(aX (.mk k g i a v ac cs) b es).isEmpty then[b]else[])else(if(jz es cs [b]).isEmpty then[b]else[])
def jz(es:List aj):List ae->List (List aP.Bind)->List (List aP.Bind)
 |[],rows=>rows
 |c::cs,rows=>jz es cs (rows.flatMap λb=>iQ es c b)
end
theorem lP(es:List aj)(c:ae)(b:List aP.Bind):iQ es c b=if c.kind=1 then(aX c b es).map (·.2)else if c.kind=2 then(if(aX c b es).isEmpty then[b]else[])else(if(jz es c.conds [b]).isEmpty then[b]else[]):=by
 cases c;simp only[iQ];rfl
mutual
def cC(es:List aj):ae->List aP.Bind->Nat->Nat
 | .mk k g i a v ac cs,b,0=>(iQ es (.mk k g i a v ac cs) b).length
 | .mk k g i a v ac cs,b,j+1=>if k=1\/k=2 then 0 else cL es cs [b] j
def cL(es:List aj):List ae->List (List aP.Bind)->Nat->Nat
 |[],_,_=>0
 |c::cs,rows,j=>if j<aO c then(rows.map λb=>cC es c b j).sum else cL es cs (rows.flatMap λb=>iQ es c b) (j-aO c)
end
theorem oF(es:List aj)(c:ae)(b:List aP.Bind):cC es c b 0=(iQ es c b).length:=by cases c;rfl
theorem vM(es:List aj)(c:ae)(b:List aP.Bind)(j:Nat):cC es c b (j+1)=if c.kind=1\/c.kind=2 then 0 else cL es c.conds [b] j:=by cases c;rfl
theorem FQ(es:List aj):∀(cs:List ae) (rows:List (List aP.Bind)) (j:Nat),ah cs<=j->cL es cs rows j=0
 |[],_,_,_=>rfl
 |c::cs,rows,j,h=>by
  simp only[ah]at h
  simp only[cL]
  rw[if_neg (by omega)]
  exact FQ es cs _ _ (by omega)
def En:bW:=⟨[],[]⟩
def stepT(es:List aj)(c:ae)(ts:List bW):List bW:=
 if c.kind=1 then ts.flatMap λt=>(aX c t.binds es).map λx=>⟨t.tags++[x.1.tag],x.2⟩else ts.filter λt=> !(iQ es c t.binds).isEmpty
def aE(es:List aj)(p:List ae):List bW:=p.foldl (λts c=>stepT es c ts) [En]
def du(es:List aj)(c:ae)(ts:List bW)(j:Nat):Nat:=(ts.map λt=>cC es c t.binds j).sum
theorem dh(es:List aj)(p:List ae)(c:ae):aE es (p++[c])=stepT es c (aE es p):=by
 unfold aE;rw[List.foldl_append];rfl
@[reducible] def gq(k:Int):List PV:=[pI k]
structure WC where
 n:Nat
 fm:Fl
 aB:List Int
 a:Option Addr
 N:Nat
 c:Nat
@[reducible] def WC.pv(w:WC):List PV:=[pP w.n 0,.list 1 w.fm (w.aB.map gq),.raw (.slice w.a w.N w.c)]
def eF(w:WC)(cv:Nat->Nat):aR:=cA 3 1 (.raw (.slice w.a w.N w.c)) ((range w.N).map λi=>[pI ((cv i:Nat):Int)])
def my(cv:Nat->Nat)(k v:Nat):Nat->Nat:=λi=>if i=k then v else cv i
theorem xG(N:Nat)(cv:Nat->Nat):∀r∈(range N).map λi=>[pI ((cv i:Nat):Int)],r.length=1:=λr hr=>by
 obtain⟨i,_,rfl⟩:=mem_map.1 hr;rfl
theorem Sm{N k v:Nat}{cv:Nat->Nat}(hk:k<N):((range N).map λi=>[pI ((cv i:Nat):Int)]).set k [pI ((v:Nat):Int)]=(range N).map λi=>[pI ((my cv k v i:Nat):Int)]:=by
 refine List.ext_getElem (by simp) λi h1 h2=>?_;simp only[length_map,List.length_range]at h2;rw[List.getElem_set];simp only[getElem_map,List.getElem_range,my];by_cases e:k=i
 ·rw[if_pos e,if_pos e.symm]
 ·rw[if_neg e,if_neg (Ne.symm e)]
theorem an.xp{n:Nat}{x:NC}{es:List aj}{ms:dg}{ids:pq}{L:List aR}{μ:Mem}(hO:Ow L μ)(hm:an n x es ms ids∈L):μ n=some (.cells 137 x.pv):=by
 obtain⟨ν,h1,h2⟩:=hO.mem _ hm;have h3:Ow [Pt n 137 x.pv,bB x.al es ms,gC x.id ids] ν:=h1;exact h2 n _ (h3.get 0 rfl)
theorem vL{w:Nat}{W:WC}{x:NC}{es:List aj}{ms:dg}{ids:pq}{cv:Nat->Nat}{L:List aR}{μ:Mem}(hO:Ow (Pt w 266 W.pv::eF W cv::an W.n x es ms ids::L) μ)(k:Nat)(hk:k<W.N)(hb:cv k<=1000000000){K:Kq}
  (hK:∀μ',Ow (Pt w 266 W.pv::eF W (my cv k (cv k+1))::an W.n x es ms ids::L) μ'->K (pB (decide (((cv k+1:Nat):Int)<=x.T))) μ'):aa prog 169 [pP w 0,pI ((k:Nat):Int),pI 1] μ K:=by
 refine rJ.c ⟨_,_,_,hO.rd 0 rfl (by simp),_,_,_,hO.rd 0 rfl (by simp),?_⟩;have Gx:k<((range W.N).map λi=>[pI ((cv i:Nat):Int)]).length:=by simpa using hk
 obtain⟨b,ha,dS,fC⟩:=cA.at_ 1 hO rfl (xG W.N cv) (j:=k) Gx;rw[ha];have hg:((range W.N).map λi=>[pI ((cv i:Nat):Int)])[k]=[pI ((cv k:Nat):Int)]:=by simp
 rw[hg]at dS fC;refine⟨by omega,by omega,_,(dS 0 1 (by omega)),?_⟩;refine⟨by omega,by omega,?_⟩;refine fC 0 _ _ (by simp) λu h1=>?_
 rw[show dx [pI ((cv k:Nat):Int)] 0 [pI (wrap .i64 (((cv k:Nat):Int)+1))]=[pI ((cv k+1:Nat):Int)]from by
  rw[aD (by omega) (by omega)];rfl,Sm hk]at h1
 have h1:Ow (Pt w 266 W.pv::eF W (my cv k (cv k+1))::an W.n x es ms ids::L) u:=h1;have ag3:k<((range W.N).map λi=>[pI ((my cv k (cv k+1) i:Nat):Int)]).length:=by simpa using hk
 obtain⟨b2,ha2,acR,_⟩:=cA.at_ 1 h1 rfl (xG W.N _) (j:=k) ag3;have hg2:((range W.N).map λi=>[pI ((my cv k (cv k+1) i:Nat):Int)])[k]=[pI ((cv k+1:Nat):Int)]:=by simp[my]
 rw[hg2]at acR;refine⟨_,_,_,h1.rd 0 rfl (by simp),?_⟩;rw[ha2];refine⟨by omega,by omega,_,acR 0 1 (by omega),_,h1.rd 0 rfl (by simp),?_⟩;refine⟨_,?_,hK u h1⟩;exact aJ (an.xp (es:=es) (ms:=ms) (ids:=ids) h1 (by simp)) (by simp)
theorem wN(n al:Nat)(k:Int)(o:Option Sym):∃fe fa fb,sN n al k o=.fn fe fa fb:=by
 cases o with
 |none=>exact⟨_,_,_,rfl⟩
 |some s=>exact⟨_,_,_,rfl⟩
structure Cf(c:ae):Prop where
 sk:cW c
 id:c.id≠⟨#[]⟩
theorem wY{n:Nat}{x:NC}{es:List aj}{ms:dg}{ids:pq}(hA:dr es ms)(hI:iV es ids){c:ae}(hc:Cf c){k:Int}(hm:dB ms k c){l:List aP.Bind}(hl:l.length<=900000){fe:Fn}{fa fb:List PV}(hf:sN n x.al k (gi l c.id)=.fn fe fa fb):
  gG prog (PX c l (.fn fe fa fb)) ((aX c l es).map PU) (an n x es ms ids) (an n x es ms ids):=by
 obtain⟨_,l1,l2,l3,l4,_⟩:=(bG c).1 hc.sk;have hs:=P_ (n:=n) (x:=x) hA hI k (gi l c.id);rw[hf]at hs;have:=Qa (l:=l) hs (by omega) (cI l3) (cI l4);rw[JB hA hc.id hm]at this;exact this
theorem tj{l:List Int}{k:Nat}(hk:k<l.length):(l.map gq)[toNat (k:Int)]?=some [pI l[k]]:=by
 rw[toNat_natCast,getElem?_map,getElem?_eq_getElem hk];rfl
theorem ZQ{w:Nat}{W:WC}{x:NC}{es:List aj}{ms:dg}{ids:pq}(hA:dr es ms)(hI:iV es ids){L:List aR}{μ:Mem}(hO:Ow (Pt w 266 W.pv::an W.n x es ms ids::L) μ){c:ae}(hc:Cf c)(fa fv fc fl:Fl){l:List aP.Bind}(hl:l.length<=900000){k:Nat}(hk:k<W.aB.length)(hm:dB ms W.aB[k] c){K:Kq}
  (hK:∀μ',Ow (Pt w 266 W.pv::an W.n x es ms ids::L) μ'->K (pB (!(aX c l es).isEmpty)) μ'):
  aa prog 236 [pP w 0,.agg [pI c.kind,pB c.goal,pS c.id,.list 6 fa (c.attr.map Test.pv),.list 6 fv (c.value.map Test.pv),pB c.acc,.list 7 fc (c.conds.map ae.pv)],.list 4 fl (l.map Bind.pv),pI ((k:Nat):Int)] μ K:=by
 refine xW.c λb8 Oh=>?_;have O1:=hO.new 4 [pB false] Oh;refine⟨_,O1.rd 1 rfl (by simp),_,_,O1.rd 1 rfl (by simp),by omega,_,tj hk,_,rfl,?_⟩;refine FL (an.xp (x:=x) (es:=es) (ms:=ms) (ids:=ids) O1 (by simp)) c _ _ _ _ l (by omega) W.aB[k] ?_;obtain⟨fe,ga,gb,hf⟩:=wN W.n x.al W.aB[k] (gi l c.id);rw[hf];refine⟨_,_,_,rfl,?_⟩;rw[Mem.sg];refine(Sw fe ga gb c _ _ _ _ l (by omega)).call ⟨_,_,_,rfl,?_⟩;refine bu.own (wY hA hI hc hm hl hf) (Ow.at 2 rfl O1) (λi u=>i=0/\Ow (an W.n x es ms ids::Pt b8 4 [pB false]::Pt w 266 W.pv::L) u) (λcd u=>cd=.ret/\(aX c l es).isEmpty=false/\Ow (an W.n x es ms ids::Pt b8 4 [pB true]::Pt w 266 W.pv::L) u) (λi=>eC.and (eC.own _)) (λcd=>eC.and (eC.and (eC.own _))) (λμ' h'=>⟨rfl,h'⟩) ?_ ?_ ?_
 ·rintro i hi u R ⟨rfl,h⟩ ca iE;rw[getElem_map];refine⟨_,_,_,_,_,_,_,_,_,_,_,_,_,_,rfl,?_⟩;refine h.st 1 rfl (by simp) λu4 h4=>iE _ _ ⟨rfl,?_,h4⟩;have tD:0<(aX c l es).length:=by simpa using hi
  cases hx:aX c l es with
  |nil=>rw[hx]at tD;simp at tD
  |cons y ys=>rfl
 ·rintro u ⟨hi,h⟩;have he:(aX c l es).isEmpty=true:=by
   rw[length_map]at hi;rw[List.isEmpty_iff];exact List.eq_nil_of_length_eq_zero hi
  dsimp only[PK];refine h.st 1 rfl (by simp) λu4 h4=>?_;refine⟨_,h4.rd 1 rfl (by simp[dx]),?_⟩;have:=hK u4 (h4.tail λ_ h=>h.drop).swap;rw[he]at this;exact this
 ·rintro cd u ⟨rfl,he,h⟩;dsimp only[PK];refine⟨_,h.rd 1 rfl (by simp),?_⟩;have:=hK u (h.tail λ_ h=>h.drop).swap;rw[he]at this;exact this
def sh(a:Nat)(f:Nat->Nat)(i:Nat):Nat:=if a<=i then f (i-a)else 0
theorem Ez(f:Nat->Nat)(i:Nat):sh 0 f i=f i:=by unfold sh;simp
theorem Ha(a:Nat)(f:Nat->Nat):sh a f a=f 0:=by unfold sh;simp
theorem Wz(a b:Nat)(f:Nat->Nat)(i:Nat):sh a (λj=>sh b f j) i=sh (a+b) f i:=by
 unfold sh;by_cases h1:a<=i
 ·rw[if_pos h1];dsimp only;by_cases h2:b<=i-a
  ·rw[if_pos h2,if_pos (by omega)];congr 1;omega
  ·rw[if_neg h2,if_neg (by omega)]
 ·rw[if_neg h1,if_neg (by omega)]
theorem JD(a:Nat)(f g:Nat->Nat)(i:Nat):sh a (λj=>f j+g j) i=sh a f i+sh a g i:=by unfold sh;split<;>rfl
theorem WA{a:Nat}{f g:Nat->Nat}(h:∀j,f j<=g j)(i:Nat):sh a f i<=sh a g i:=by
 unfold sh;split
 ·exact h _
 ·exact le_refl _
theorem uK{a:Nat}{f g:Nat->Nat}(h:∀j,f j=g j)(i:Nat):sh a f i=sh a g i:=by rw[show f=g from funext h]
theorem SU(es:List aj)(c:ae)(b:List aP.Bind){j:Nat}(h:aO c<=j):cC es c b j=0:=by
 rw[bN]at h;obtain⟨i,rfl⟩:∃i,j=i+1:=⟨j-1,by omega⟩;rw[vM];split
 ·rfl
 ·exact FQ es _ _ _ (by omega)
def dm(es:List aj)(c:ae)(rows:List (List aP.Bind))(j:Nat):Nat:=(rows.map λb=>cC es c b j).sum
theorem yp(es:List aj)(c:ae)(a b:List (List aP.Bind))(j:Nat):dm es c (a++b) j=dm es c a j+dm es c b j:=by unfold dm;rw[map_append,List.sum_append]
theorem Nh(es:List aj)(c:ae){rows:List (List aP.Bind)}{k:Nat}(hk:k<rows.length)(j:Nat):dm es c (rows.take (k+1)) j=dm es c (rows.take k) j+cC es c rows[k] j:=by
 rw[take_add_one,getElem?_eq_getElem hk,yp];simp[dm]
theorem Ub(es:List aj)(c:ae)(rows:List (List aP.Bind))(k j:Nat):dm es c (rows.take k) j<=dm es c rows j:=by
 have:=yp es c (rows.take k) (rows.drop k) j;rw[take_append_drop]at this;omega
theorem GS(es:List aj)(c:ae)(rows:List (List aP.Bind)){j:Nat}(h:aO c<=j):dm es c rows j=0:=by
 unfold dm;induction rows with
 |nil=>rfl
 |cons b rows ih=>rw[map_cons,List.sum_cons,ih,SU es c b h]
theorem wO(es:List aj)(c:ae)(rows:List (List aP.Bind)):dm es c rows 0=(rows.flatMap λb=>iQ es c b).length:=by
 unfold dm;rw[List.length_flatMap];congr 1;exact List.map_congr_left λb _=>oF es c b
theorem AG(es:List aj):∀(a b:List ae) (rows:List (List aP.Bind)),jz es (a++b) rows=jz es b (jz es a rows)
 |[],_,_=>rfl
 |c::a,b,rows=>by simp only[cons_append,jz];exact AG es a b _
theorem xK(es:List aj):∀(a b:List ae) (rows:List (List aP.Bind)) (j:Nat),cL es (a++b) rows j=cL es a rows j+sh (ah a) (cL es b (jz es a rows)) j
 |[],b,rows,j=>by simp[cL,jz,ah,Ez]
 |d::a,b,rows,j=>by
  simp only[cons_append,cL,jz,ah]
  by_cases h:j<aO d
  ·rw[if_pos h,if_pos h]
   unfold sh;rw[if_neg (by omega)];rfl
  ·rw[if_neg h,if_neg h,xK es a b]
   congr 1
   unfold sh
   by_cases h2:ah a<=j-aO d
   ·rw[if_pos h2,if_pos (by omega)];congr 1;omega
   ·rw[if_neg h2,if_neg (by omega)]
theorem SL(es:List aj)(c:ae)(rows:List (List aP.Bind))(j:Nat):cL es [c] rows j=dm es c rows j:=by
 simp only[cL];by_cases h:j<aO c
 ·rw[if_pos h];rfl
 ·rw[if_neg h,GS es c rows (by omega)]
theorem zM(es:List aj){l:List ae}{i:Nat}(hi:i<l.length)(rows:List (List aP.Bind))(j:Nat):cL es (l.take (i+1)) rows j=cL es (l.take i) rows j+sh (ah (l.take i)) (dm es l[i] (jz es (l.take i) rows)) j:=by
 have e:l.take (i+1)=l.take i++[l[i]]:=by rw[take_add_one,getElem?_eq_getElem hi];rfl
 rw[e,xK];congr 1;exact uK (λj=>SL es _ _ j) j
theorem aea(es:List aj)(l:List ae)(i:Nat)(rows:List (List aP.Bind))(j:Nat):cL es (l.take i) rows j<=cL es l rows j:=by
 have:=xK es (l.take i) (l.drop i) rows j;rw[take_append_drop]at this;omega
theorem Qw(es:List aj){l:List ae}{i:Nat}(hi:i<l.length)(rows:List (List aP.Bind)):jz es (l.take (i+1)) rows=(jz es (l.take i) rows).flatMap λb=>iQ es l[i] b:=by
 have e:l.take (i+1)=l.take i++[l[i]]:=by rw[take_add_one,getElem?_eq_getElem hi];rfl
 rw[e,AG];rfl
theorem mD{l:List ae}{i:Nat}(hi:i<l.length):ah (l.take (i+1))=ah (l.take i)+aO l[i]:=by
 have e:l.take (i+1)=l.take i++[l[i]]:=by rw[take_add_one,getElem?_eq_getElem hi];rfl
 have h:∀(a b:List ae),ah (a++b)=ah a+ah b:=λa b=>by
  induction a with
  |nil=>simp[ah]
  |cons c a ih=>simp only[cons_append,ah,ih];omega
 rw[e,h];simp[ah]
theorem gJ(l:List ae)(i:Nat):ah (l.take i)<=ah l:=by
 have h:∀(a b:List ae),ah (a++b)=ah a+ah b:=λa b=>by
  induction a with
  |nil=>simp[ah]
  |cons c a ih=>simp only[cons_append,ah,ih];omega
 have:=h (l.take i) (l.drop i);rw[take_append_drop]at this;omega
theorem Mu{es:List aj}{c:ae}(hl:cW c){b r:List aP.Bind}(h:r∈iQ es c b):r.length<=b.length+100*aO c:=by
 obtain⟨_,l1,l2,_⟩:=(bG c).1 hl;have hs:1<=aO c:=by rw[bN];omega
 rw[lP]at h;split at h
 ·obtain⟨⟨e,r'⟩,hx,rfl⟩:=mem_map.1 h;unfold aX at hx;obtain⟨e',_,he⟩:=List.mem_filterMap.1 hx;cases hc:c_ c e' b with
  |none=>rw[hc]at he;cases he
  |some q=>
   rw[hc]at he;simp only[Option.map_some,Option.some.injEq,Prod.mk.injEq]at he;have:=DW hc;obtain⟨rfl,rfl⟩:=he;show q.length<=_;omega
 ·split at h
  ·split at h
   ·simp only[mem_singleton]at h;subst h;omega
   ·cases h
  ·split at h
   ·simp only[mem_singleton]at h;subst h;omega
   ·cases h
theorem LS{es:List aj}:∀{l:List ae} {rows:List (List aP.Bind)} {m:Nat},bX l->(∀b∈rows,b.length<=m)->∀r∈jz es l rows,r.length<=m+100*ah l
 |[],rows,m,_,h,r,hr=>by have:=h r hr;simp[ah];omega
 |c::cs,rows,m,hl,h,r,hr=>by
  simp only[jz]at hr
  have:=LS (l:=cs) (m:=m+100*aO c) hl.2 (λb hb=>by
   obtain⟨a,ha,hb⟩:=List.mem_flatMap.1 hb
   have h1:=Mu hl.1 hb
   have h2:=h a ha
   omega) r hr
  simp only[ah];omega
namespace K6
theorem vJ(a b:ByteArray):Pure prog 339 [pS a,pS b] (pI (bE a b)):=by
 refine au.of (qM.c ?_);refine ab.mk (λh=>?_) (λh=>ab.mk (λh1=>?_) (λh1=>?_))
 ·simp[bE,h,wk,bU]
 ·simp only[bE,h,wk,bU];simp only[h]at h1;rw[h1];rfl
 ·simp only[bE,h,wk,bU];simp only[h]at h1;rw[h1];rfl
def ch(L:List ByteArray):Lq:=L.map λs=>[pS s]
theorem cP(L:List ByteArray):∀r∈ch L,r.length=1:=λr hr=>by
 obtain⟨s,_,rfl⟩:=mem_map.1 hr;rfl
theorem ji(L:List ByteArray):aU (ch L).flatten=true:=by
 unfold aU ch;rw[List.all_eq_true];intro x hx;obtain⟨r,hr,hx⟩:=List.mem_flatten.1 hx;obtain⟨s,_,rfl⟩:=mem_map.1 hr;simp only[mem_singleton]at hx;subst hx;rfl
@[simp] theorem da(L:List ByteArray):(ch L).length=L.length:=by simp[ch]
theorem Hf{L:List ByteArray}{i:Nat}(h:i<L.length):(ch L)[toNat (i:Int)]?=some [pS L[i]]:=by
 rw[toNat_natCast,ch,getElem?_map,getElem?_eq_getElem h];rfl
abbrev uG:TypeId:=309
abbrev tyName:TypeId:=214
abbrev BS(μ:Mem)(b:Nat)(L:List ByteArray)(F:List Nat):Prop:=il uG tyName 1 μ b (ch L) F
theorem KM(b:Nat)(s:Bool)(L:List ByteArray)(hu:Up bE L)(hl:L.length<=1000000)(x:ByteArray):aa prog 251 [pP b 0,pS x] (M0.set b (some (.ro uG [.list 1 .sh (ch L),pB s]))) λp _=>∃(k:Nat) (t:Bool),p=.az [pI k,pB t]/\bP bE L x k t:=by
 refine kV.c ?_;refine⟨_,_,wV (Mem.ao _ _ _) (by simp),?_⟩;have dS:∀u,u=M0.set b (some (.ro uG [.list 1 .sh (ch L),pB s]))->ay u b 0 1=some [.list 1 .sh (ch L)]:=λu h=>by rw[h];exact wV (Mem.ao _ _ _) (by simp)
 rw[da];refine ak.bin (n:=L.length) (by omega) (λi=>if h:i<L.length then bE L[i] x else 1) (λu=>u=M0.set b (some (.ro uG [.list 1 .sh (ch L),pB s]))) rfl ?_ ?_ ?_ ?_
 ·intro i j Km hj h;rw[dif_pos hj]at h;rw[dif_pos (Nat.lt_trans Km hj)];exact hu.WI cJ Km hj h
 ·intro i j Km hj h;rw[dif_pos (Nat.lt_trans Km hj)]at h;rw[dif_pos hj];exact hu.WH cJ Km hj h
 ·intro lo hi wF u next bI hhi Za Mm hA h1 h2 h3
  subst hA;rw[dif_pos Mm]at h1 h2 h3;refine ab.t (by simpa using bI) ⟨by decide,?_⟩;refine⟨_,_,dS _ rfl,?_⟩;dsimp only;rw[acm bI (by omega),<- Za];refine⟨by omega,_,Hf Mm,_,rfl,λv=>by kernel_rfl,(vJ L[wF] x).call ⟨_,rfl,ab.mk (λh=>?_) (λh=>ab.mk (λh'=>?_) (λh'=>?_))⟩⟩
  ·have h0:bE L[wF] x=0:=by simpa using h
   refine⟨wF,true,rfl,Nat.le_of_lt Mm,λi hi uB=>?_,λ_=>⟨Mm,(xH).1 h0⟩,λh=>by cases h⟩;have:=h3 h0 i uB;rw[dif_pos hi]at this;exact this
  ·have h0:bE L[wF] x<0:=by simpa using h'
   have:=h1 h0 _ rfl;rw[aD (by omega) (by omega)];exact this
  ·have h0:0<bE L[wF] x:=by
    have a1:bE L[wF] x≠0:=by simpa using h
    have a2:¬bE L[wF] x<0:=by simpa using h'
    omega
   exact h2 h0 _ rfl
 ·intro k u next hA hk h1 h2
  refine ab.f (by simp) ?_;refine⟨k,false,rfl,hk,λi hi uB=>?_,λh=>(by cases h),λ_ i hi uB=>?_⟩
  ·have:=h1 i uB;rw[dif_pos hi]at this;exact this
  ·have:=h2 i uB hi;rw[dif_pos hi]at this;exact this
theorem XG{μ:Mem}{b:Nat}{L:List ByteArray}{F:List Nat}(h:BS μ b L F)(hu:Up bE L)(hl:L.length<=1000000)(x:ByteArray){K:Kq}(hk:∀(k:Nat) (t:Bool),bP bE L x k t->K (.az [pI k,pB t]) μ):aa prog 251 [pP b 0,pS x] μ K:=
 il.query h (λs=>KM b s L hu hl x) (λp ⟨k,t,e,_⟩=>by rw[e];rfl) λp ⟨k,t,e,hf⟩=>by rw[e];exact hk k t hf
theorem qH{μ:Mem}{b:Nat}{L:List ByteArray}{F:List Nat}(h:BS μ b L F)(hu:Up bE L)(hl:L.length<=1000000)(x:ByteArray){K:Kq}(hk:∀(k:Nat) (t:Bool),bP bE L x k t->K (.az [pI k,pB t]) μ):aa prog 256 [pP b 0,pS x] μ K:=by
 refine ko.c ?_;exact ab.f rfl (XG h hu hl x λk t hf=>⟨_,_,rfl,hk k t hf⟩)
theorem KJ{μ:Mem}{b:Nat}{L:List ByteArray}{F:List Nat}(h:BS μ b L F)(hl:L.length<=1000000){K:Kq}(hk:∀μ' F',sC uG tyName 1 μ' b (ch L) F'->Mv μ μ' F F'->K (.az []) μ'):aa prog 252 [pP b 0] μ K:=by
 obtain⟨μ0,hG,Pl,Rs⟩:=h.raw;refine aa.pre hG (ma.c ?_);rcases Rs with⟨rfl,hm⟩|hr
 ·refine⟨true,aJ hm (by simp),ab.t rfl ?_⟩;refine⟨_,_,aJ hm (by simp),?_⟩;refine⟨_,_,aJ hm (by simp),?_⟩;rw[da,aD (by omega) (by omega)];refine⟨by omega,by omega,by omega,by omega,λBM Fp=>?_⟩;have aQ:BM≠b:=by rintro rfl;rw[hm]at Fp;cases Fp
  have hn:toNat ((L.length:Int)+1)=L.length+1:=by omega
  rw[hn];refine ID (Mem.ao _ _ _) (by simp) (by simp) (cP L) (ji L) (by simp;omega) (by simp;omega) ?_;rw[Mem.set_set];refine⟨_,_,by rw[Mem.ax _ _ (Ne.symm aQ)];exact hm,by simp,?_⟩;refine⟨_,_,Mem.ao _ _ _,by simp[dx],?_⟩;rw[Mem.set_set];refine hk _ [b,BM] (.inr ⟨BM,L.length+1,_,rfl,aQ,by rw[Mem.ao];rfl,by rw[Mem.ax _ _ aQ,Mem.ao],by simp,by simp⟩) (Pl.trans ?_);exact((Mv.set (F:=[b]) (.inr Fp)).trans (Mv.set (.inl (by simp)))).sub (by simp)
 ·obtain⟨a,c,hm,_⟩:=hr.app (cP L);exact⟨false,aJ hm (by simp),ab.f rfl (hk μ0 F hr Pl)⟩
theorem qq(L:List ByteArray)(j:Nat)(y:ByteArray):(L.take j++y::L.drop j).length=L.length+1:=by
 rw[length_append,length_cons,length_take,length_drop];omega
theorem UQ(L:List ByteArray)(j:Nat)(y:ByteArray)(h0:0<j)(hj:j<=L.length):(ch (L.take j++y::L.drop j)).set j [pS (L[j-1]'(by omega))]=ch (L.take (j-1)++(L[j-1]'(by omega))::L.drop (j-1)):=by
 have e:L.drop (j-1)=L[j-1]'(by omega)::L.drop j:=by
  rw[List.drop_eq_getElem_cons (by omega)];congr 2;omega
 have e2:L.take j=L.take (j-1)++[L[j-1]'(by omega)]:=by
  have:=take_add_one (l:=L) (i:=j-1);rw[show j-1+1=j by omega,getElem?_eq_getElem (by omega)]at this;exact this
 have hlen:(L.take j).length=j:=by rw[length_take];omega
 unfold ch;rw[map_append,map_cons,List.set_append_right _ _ (by simp;omega)];simp only[length_map,hlen,Nat.sub_self,List.set_cons_zero];rw[e2,e,map_append,append_assoc,map_append];rfl
theorem YL(L:List ByteArray)(j:Nat)(x y:ByteArray)(hj:j<=L.length):(ch (L.take j++y::L.drop j)).set j [pS x]=ch (L.take j++x::L.drop j):=by
 have hlen:(L.take j).length=j:=by rw[length_take];omega
 unfold ch;rw[map_append,map_cons,List.set_append_right _ _ (by simp;omega)];simp only[length_map,hlen,Nat.sub_self,List.set_cons_zero];rw[map_append,map_cons]
theorem acr(L:List ByteArray)(j:Nat)(y:ByteArray)(h0:0<j)(hj:j<=L.length):(ch (L.take j++y::L.drop j))[j-1]?=some [pS (L[j-1]'(by omega))]:=by
 unfold ch;rw[getElem?_map,List.getElem?_append_left (by rw[length_take];omega),List.getElem?_take,if_pos (by omega),getElem?_eq_getElem (by omega)];rfl
theorem fL{μ:Mem}{b:Nat}{L:List ByteArray}{F:List Nat}(h:BS μ b L F)(hu:Up bE L)(hl:L.length<=999999)(x:ByteArray){K:Kq}
  (hk:∀μ' L' F' (t:Bool),(t=true↔x∉L)->BS μ' b L' F'->Up bE L'->(∀y,y∈L'↔y=x\/y∈L)->L'.length<=L.length+t.toNat->Mv μ μ' F F'->K (pB t) μ'):aa prog 193 [pP b 0,pS x] μ K:=by
 refine mc.c ?_;refine ab.f rfl (XG h hu (by omega) x λk t hf=>⟨_,_,rfl,ab.mk (λht=>?_) (λht=>?_)⟩)
 ·have hx:x∈L:=(hf.mem cJ).1 ht;exact hk μ L F false ⟨λh=>(by cases h),λh=>absurd hx h⟩ h hu (λy=>⟨λh=>.inr h,λh=>h.elim (λe=>e▸hx) id⟩) (by simp) (Mv.refl _ _)
 ·subst ht;have hx:x∉L:=λhx=>by have:=(hf.mem cJ).2 hx;cases this
  refine KJ h (by omega) λμ1 F1 hr yC=>⟨rfl,?_⟩;obtain⟨a,c,hb,kg⟩:=hr.app (cP L);refine⟨_,_,_,aJ hb (by simp),?_⟩;simp only[da]at kg;rw[da];refine kg [pS x] 16 _ rfl rfl (by omega) (by omega) λb' c' rest μ2 aQ e2 jY ja su sq=>?_;refine⟨_,_,e2.trans hb,by simp,?_⟩;refine⟨_,_,_,aJ (Mem.ao _ _ _) (by simp[dx]),?_⟩;have hn1:wrap .i64 (((L.length+1:Nat):Int)-1)=(L.length:Int):=by rw[aD (by omega) (by omega)];omega
  rw[hn1];have YQ:dx [.raw (.slice a L.length c),pB false] 0 [PV.raw (.slice (some ⟨b',0,none⟩) (L.length+1) c')]=[.raw (.slice (some ⟨b',0,none⟩) (L.length+1) c'),pB false]:=rfl;refine ak.down hf.le (by omega) (λj u=>∃y,u b=some (.cells uG [.raw (.slice (some ⟨b',0,none⟩) (L.length+1) c'),pB false])/\u b'=some (.cells tyName ((ch (L.take j++y::L.drop j)).flatten++rest))/\Mv μ2 u [b,b'] [b,b']) ⟨x,?_,?_,?_⟩ ?_ ?_
  ·rw[Mem.ao];rfl
  ·rw[Mem.ax _ _ aQ,jY,take_length,drop_length];simp[ch]
  ·exact(Mv.set (.inl (by simp))).sub (by simp)
  ·rintro j u next Zg Tz ⟨y,i1,i2,i3⟩ av
   refine ab.t (by simpa using Zg) ?_;refine⟨_,_,_,aJ i1 (by simp),?_⟩;refine⟨_,_,_,aJ i1 (by simp),?_⟩;have Mp:wrap .i64 ((j:Int)-1)=((j-1:Nat):Int):=by rw[aD (by omega) (by omega)];omega
   refine⟨by rw[Mp];omega,by rw[Mp];omega,L[j-1]'(by omega),?_,?_⟩
   ·rw[Mp,toNat_natCast,zero_add];exact Hi (cP _) i2 (acr L j y (by omega) Tz)
   ·refine⟨by omega,by omega,_,_,i2,?_,av _ ⟨L[j-1]'(by omega),?_,?_,?_⟩⟩
    ·have kP:=dT (cP (L.take j++y::L.drop j));rw[da,qq]at kP;rw[length_append,kP,toNat_natCast,length_singleton];omega
    ·rw[Mem.ax _ _ (Ne.symm aQ)];exact i1
    ·rw[Mem.ao,toNat_natCast,zero_add,CW (cP _) (by rw[da,qq];omega) rfl,UQ L j y (by omega) Tz]
    ·exact(i3.trans (Mv.set (.inl (by simp)))).sub (by simp)
  ·rintro u next ⟨y,i1,i2,i3⟩
   refine ab.f (by simp) ?_;refine⟨_,_,_,aJ i1 (by simp),?_⟩;have hle:=hf.le;refine⟨by omega,by omega,_,_,i2,?_,?_⟩
   ·have kP:=dT (cP (L.take k++y::L.drop k));rw[da,qq]at kP;rw[length_append,kP,toNat_natCast,length_singleton];omega
   ·rw[toNat_natCast,zero_add,CW (cP _) (by rw[da,qq];omega) rfl,YL L k x y hf.le];refine hk (u.set b' (some (.cells tyName ((ch (L.take k++x::L.drop k)).flatten++rest)))) (L.take k++x::L.drop k) [b,b'] true ⟨λ_=>hx,λ_=>rfl⟩ ⟨cP _,ji _,.inr (.inr (.inr ⟨b',c',rest,rfl,aQ,?_,Mem.ao _ _ _,?_,?_⟩))⟩ (hf.put cJ hu) (λy=>bP.YI) (by rw[qq];simp) ?_
    ·rw[Mem.ax _ _ (Ne.symm aQ),i1,da,qq]
    ·rw[da,qq];exact ja
    ·rw[da,qq];exact su
    ·exact yC.trans (sq.trans ((i3.trans (Mv.set (.inl (by simp)))).sub (by simp)))
theorem aak{μ:Mem}{b:Nat}{L:List ByteArray}{F:List Nat}(h:BS μ b L F){K:Kq}(hk:∀μ' b',(b'∈F\/μ b'=none)->b'≠b->BS μ' b L [b]->BS μ' b' L [b']->Mv μ μ' F [b',b]->K (pP b' 0) μ'):aa prog 253 [pP b 0] μ K:=by
 obtain⟨μ0,s,hG,hm,Pl⟩:=h.list;refine aa.pre hG (kp.c ?_);refine ab.f rfl ?_;refine⟨_,_,hm,by simp,?_⟩;refine⟨_,_,aJ (Mem.ao _ _ _) (by simp[dx]),λb' jY=>?_⟩;have aQ:b'≠b:=by rintro rfl;rw[Mem.ao]at jY;cases jY
 have hb0:=jY;rw[Mem.ax _ _ aQ]at hb0;have sq:Mv μ (((μ0.set b (some (.cells uG (dx [.list 1 .sh (ch L),pB s] (0+1) [pB true])))).set b' (some (.cells uG [.list 1 .sh (ch L),pB true])))) F [b',b]:=(Pl.trans ((Mv.set (.inl (by simp))).trans (Mv.set (.inr jY)))).sub (by simp);refine hk _ b' (sq.grow b' (by simp)) aQ ⟨cP L,ji L,.inl ⟨rfl,?_⟩⟩ ⟨cP L,ji L,.inl ⟨rfl,Mem.ao _ _ _⟩⟩ sq;rw[Mem.ax _ _ (Ne.symm aQ),Mem.ao];rfl
theorem gj{μ:Mem}(fl:Fl){K:Kq}(hk:∀μ' b,μ b=none->BS μ' b [] [b]->Mv μ μ' [] [b]->K (pP b 0) μ'):aa prog 129 [.list 1 fl []] μ K:=by
 refine oN.c ?_;intro b hb;refine ak.each (n:=0) (by omega) (λ_ u=>u=μ.set b (some (.cells uG [.list 1 .nil [],pB false]))) rfl (λk u next bZ=>by omega) ?_;rintro u next rfl
 refine ab.f (by simp) (hk _ b hb ⟨cP [],ji [],.inr (.inl ⟨rfl,rfl,Mem.ao _ _ _⟩)⟩ ((Mv.set (.inr hb)).sub (by simp)))
end K6
@[reducible] def p8(c:UInt8):PV:=.raw (.int .u8 ((c.toNat:Nat):Int))
def iy(c:UInt8):Bool:=decide ((c.toNat:Int)>=97)&&decide ((c.toNat:Int)<=122)
def FJ(c:UInt8):Bool:=decide ((c.toNat:Int)>=48)&&decide ((c.toNat:Int)<=57)
def Fu(c:UInt8):Bool:=decide ((c.toNat:Int)>=65)&&decide ((c.toNat:Int)<=90)
def lB(c:UInt8):Bool:=iy c||(FJ c||(((c.toNat:Int) == 45)||((c.toNat:Int) == 95)))
def rY(l:List UInt8):Bool:=decide (1<=l.length)&&(decide (l.length<=32)&&((match l with|c::_=>iy c|[]=>false)&&l.all lB))
def iX(t:ByteArray):Bool:=rY (bL t)
def fI(s:Sym):Bool:=
 bif s.k == 1 then(match bL s.t with|[c]=>Fu c&&(decide (s.n>=1)&&decide (s.n<=1048576))|_=>false)else
 bif s.k == 2 then aF s.t ⟨#[]⟩&&(decide (s.n>= -2147483647)&&decide (s.n<=2147483647))else
 bif s.k == 3 then(s.n == 0)&&iX s.t else false
theorem Sx(c:UInt8):Pure prog 244 [p8 c] (pB (iy c)):=by
 refine au.of (IN.c ?_);refine ab.mk (λh=>?_) (λh=>?_)<;>simp_all [iy,wk,bU]<;>omega
theorem aai(c:UInt8):Pure prog 245 [p8 c] (pB (FJ c)):=by
 refine au.of (IQ.c ?_);refine ab.mk (λh=>?_) (λh=>?_)<;>simp_all [FJ,wk,bU]<;>omega
theorem aae(c:UInt8):Pure prog 217 [p8 c] (pB (Fu c)):=by
 refine au.of (IP.c ?_);refine ab.mk (λh=>?_) (λh=>?_)<;>simp_all [Fu,wk,bU]<;>omega
theorem ad7(c:UInt8):Pure prog 201 [p8 c] (pB (lB c)):=by
 refine au.of (ui.c ?_)
 repeat' (refine ab.mk (λh=>?_) (λh=>?_))
 all_goals (simp only[wk,bU,PV.raw.injEq,Value.bool.injEq,lB,iy,FJ];grind)
theorem Jh{c:UInt8}{l:List UInt8}(h1:(c::l).length<=32)(h2:iy c=true):rY (c::l)=l.all lB:=by
 simp only[rY,length_cons]at*
 have hp:lB c=true:=by simp[lB,h2]
 simp[h2,hp];omega
theorem Eb(t:ByteArray):Pure prog 187 [pS t] (pB (iX t)):=by
 refine au.of (Lk.c ?_);have hlen:=BL t;unfold iX;generalize hL:bL t=L at hlen;refine ab.mk (λh=>?_) (λh=>ab.mk (λh2=>?_) (λh2=>?_))
 ·have:L=[]:=List.eq_nil_of_length_eq_zero (by simp at h;omega);subst this;rfl
 ·have:¬L.length<=32:=by simp at h2;omega
  simp[rY,this,wk,bU]
 ·have h1:1<=t.size:=by simp at h;omega
  have h3:L.length<=32:=by simp at h2;omega
  have nE:∀k (hk:k<L.length),t[toNat (k:Int)]?=some L[k]:=λk hk=>by subst hL;exact FR (by omega)
  obtain⟨c,l,rfl⟩:∃c l,L=c::l:=by
   cases L with
   |nil=>simp at hlen;omega
   |cons c l=>exact⟨c,l,rfl⟩
  refine⟨by omega,c,nE 0 (by simp),(Sx c).call ⟨_,rfl,ab.mk (λh4=>?_) (λh4=>?_)⟩⟩
  ·have h4:iy c=false:=by simpa using h4
   simp[rY,h4,wk,bU]
  ·have h4:iy c=true:=by simpa using h4
   rw[Jh h3 h4];refine ak.from (s:=1) (n:=t.size) h1 (by omega) (λk u=>(l.take (k-1)).all lB=true) (by simp) ?_ ?_
   ·intro k u next jB hk hg av
    have bZ:k<(c::l).length:=by omega
    have Gx:k-1<l.length:=by simp at bZ;omega
    have hck:(c::l)[k]=l[k-1]:=by
     cases k with
     |zero=>omega
     |succ k=>simp
    have hx:=nE k bZ;rw[hck]at hx
    have go:lB l[k-1]=true->∀u',next (wrap .i64 ((k:Int)+1)) u':=λhp u'=>av u' (by
     have:k+1-1=k-1+1:=by omega
     rw[this,FU Gx hg];exact hp)
    have stop:lB l[k-1]=false->wk (pB false)=pB (l.all lB):=λhp=>by rw[FV Gx hp];rfl
    refine ab.t (by simpa using hk) ⟨by omega,_,hx,(Sx _).call ⟨_,rfl,ab.mk (λa1=>?_) (λa1=>go ?_ _)⟩⟩
    ·refine⟨by omega,_,hx,(aai _).call ⟨_,rfl,ab.mk (λa2=>?_) (λa2=>go ?_ _)⟩⟩
     ·refine⟨by omega,_,hx,ab.mk (λa3=>⟨by omega,_,hx,ab.mk (λa4=>stop ?_) (λa4=>go ?_ _)⟩) (λa3=>go ?_ _)⟩<;>simp_all [lB]
     ·simp_all [lB]
    ·simp_all [lB]
   ·intro u next hg
    refine ab.f (by simp) ?_;have:t.size-1=l.length:=by simp at hlen;omega
    rw[this,take_length]at hg;rw[hg];rfl
theorem qE(t:ByteArray):Pure prog 136 [pS t] (pB (iX t)):=by
 refine au.of (uh.c ?_);have hlen:=BL t;unfold iX;generalize hL:bL t=L at hlen;refine ab.mk (λh=>?_) (λh=>ab.mk (λh2=>?_) (λh2=>?_))
 ·have:L=[]:=List.eq_nil_of_length_eq_zero (by simp at h;omega);subst this;rfl
 ·have:¬L.length<=32:=by simp at h2;omega
  simp[rY,this,wk,bU]
 ·have h1:1<=t.size:=by simp at h;omega
  have h3:L.length<=32:=by simp at h2;omega
  have nE:∀k (hk:k<L.length),t[toNat (k:Int)]?=some L[k]:=λk hk=>by subst hL;exact FR (by omega)
  obtain⟨c,l,rfl⟩:∃c l,L=c::l:=by
   cases L with
   |nil=>simp at hlen;omega
   |cons c l=>exact⟨c,l,rfl⟩
  refine⟨by omega,c,nE 0 (by simp),ab.mk (λh4=>?_) (λh4=>⟨by omega,c,nE 0 (by simp),ab.mk (λh5=>?_) (λh5=>?_)⟩)⟩
  ·have:iy c=false:=by simp at h4;simp[iy];omega
   simp[rY,this,wk,bU]
  ·have:iy c=false:=by simp at h5;simp[iy];omega
   simp[rY,this,wk,bU]
  ·have hs:iy c=true:=by simp at h4 h5;simp[iy];omega
   have hw:rY (c::l)=(c::l).all lB:=by
    simp only[length_cons]at h3;simp[rY,hs];omega
   rw[hw];refine ak.each (n:=t.size) (by omega) (λk u=>((c::l).take k).all lB=true) (by simp) ?_ ?_
   ·intro k u next hk hg av
    have bZ:k<(c::l).length:=by omega
    refine ab.t (by simpa using hk) ⟨by omega,_,nE k bZ,(ad7 _).call ⟨_,rfl,ab.mk (λa1=>?_) (λa1=>av _ ?_)⟩⟩
    ·rw[FV bZ (by simpa using a1)];rfl
    ·rw[FU bZ hg];simpa using a1
   ·intro u next hg
    refine ab.f (by simp) ?_;rw[<- hlen,take_length]at hg;rw[hg];rfl
theorem zA{t:ByteArray}:((((t.size:Nat):Int) == 1)=true↔∃c,bL t=[c]):=by
 have hlen:=BL t;constructor
 ·intro h;have h1:(bL t).length=1:=by simp at h;omega
  exact List.length_eq_one_iff.1 h1
 ·rintro⟨c,hc⟩;rw[hc]at hlen;simp at hlen |-;omega
theorem FK(s:Sym):Pure prog 150 [.agg s.pv] (pB (fI s)):=by
 refine au.of (IS.c ?_);refine ab.mk (λh=>?_) (λh=>ab.mk (λh2=>?_) (λh2=>ab.mk (λh3=>?_) (λh3=>?_)))
 ·refine ab.mk (λa=>?_) (λa=>?_)
  ·obtain⟨c,hc⟩:=zA.1 a;have nE:s.t[toNat 0]?=some c:=by
    have:=FR (t:=s.t) (k:=0) (by have:=BL s.t;rw[hc]at this;simp at this;omega);simpa[hc]using this
   refine⟨by omega,c,nE,(aae c).call ⟨_,rfl,ab.mk (λb=>ab.mk (λd=>?_) (λd=>?_)) (λb=>?_)⟩⟩<;>simp_all [fI,wk,bU]<;>omega
  ·have:∀c,bL s.t≠[c]:=λc hc=>by rw[zA.2 ⟨c,hc⟩]at a;cases a
   have hv:fI s=false:=by
    simp only[fI,h,cond_true]
    all_goals (split<;>first|rfl|(rename_i c hc;exact absurd hc (this c)))
   rw[hv];rfl
 ·refine ab.mk (λa=>ab.mk (λb=>?_) (λb=>?_)) (λa=>?_)<;>simp_all [fI,wk,bU]<;>omega
 ·refine ab.mk (λa=>(Eb s.t).call ⟨_,rfl,?_⟩) (λa=>?_)<;>simp_all [fI,wk,bU]<;>omega
 ·simp_all [fI,wk,bU]
theorem xI(s:Sym):Pure prog 161 [.agg s.pv] (pB (fI s)):=by
 refine au.of (rR.c ?_);refine ab.mk (λh=>?_) (λh=>ab.mk (λh2=>?_) (λh2=>ab.mk (λh3=>?_) (λh3=>?_)))
 ·refine ab.mk (λa=>?_) (λa=>?_)
  ·obtain⟨c,hc⟩:=zA.1 a;have nE:s.t[toNat 0]?=some c:=by
    have:=FR (t:=s.t) (k:=0) (by have:=BL s.t;rw[hc]at this;simp at this;omega);simpa[hc]using this
   refine⟨by omega,c,nE,ab.mk (λb=>⟨by omega,c,nE,ab.mk (λb2=>ab.mk (λd=>?_) (λd=>?_)) (λb2=>?_)⟩) (λb=>?_)⟩<;>simp_all [fI,Fu,wk,bU]<;>omega
  ·have:∀c,bL s.t≠[c]:=λc hc=>by rw[zA.2 ⟨c,hc⟩]at a;cases a
   have hv:fI s=false:=by
    simp only[fI,h,cond_true]
    all_goals (split<;>first|rfl|(rename_i c hc;exact absurd hc (this c)))
   rw[hv];rfl
 ·refine ab.mk (λa=>ab.mk (λb=>?_) (λb=>?_)) (λa=>?_)<;>simp_all [fI,wk,bU]<;>omega
 ·refine ab.mk (λa=>(qE s.t).call ⟨_,rfl,?_⟩) (λa=>?_)<;>simp_all [fI,wk,bU]<;>omega
 ·simp_all [fI,wk,bU]
def lS(s:Sym):Bool:=(s.k != 1)&&fI s
theorem xJ(s:Sym):Pure prog 162 [.agg s.pv] (pB (lS s)):=by
 refine au.of (rS.c ?_);refine(xI s).call ⟨_,rfl,ab.mk (λa=>?_) (λa=>?_)⟩<;>simp_all [lS,wk,bU]
def si(s:Sym):Bool:=(s.k == 0)&&(aF s.t ⟨#[]⟩&&((s.n == 0)&&true))
def tK(a:Atom):Bool:=aF a.var ⟨#[]⟩&&si a.sym
def je(a:Atom):Bool:=bif aF a.var ⟨#[]⟩then lS a.sym else iX a.var&&si a.sym
def dF(t:Test):Bool:=
 bif t.rel == 8 then aF t.var ⟨#[]⟩&&(si t.sym&&(decide (1<=t.list.length)&&(decide (t.list.length<=8)&&t.list.all lS)))
 else decide (1<=t.rel)&&(decide (t.rel<=7)&&(decide (t.list.length=0)&&je ⟨t.var,t.sym⟩))
def CY(a:Atom):Bool:=aF a.var ⟨#[]⟩&&(a.sym.k == 3)
def ll(t:Term):Bool:=decide (0<=t.op)&&(decide (t.op<=3)&&(je t.a&&(bif t.op == 0 then tK t.b else je t.b&&(!CY t.a&& !CY t.b))))
def AF(k:Int):Bool:=(k == 8)||((k == 9)||(k == 10))
def iR(a:cT):Bool:=iX a.id&&(je a.attr&&(ll a.value&&(decide (1<=a.p_)&&(decide (a.p_<=10)&&(bif AF a.p_ then je a.other else tK a.other)))))
def bw(c:ae)(deep:Int):Int:=
 bif c.kind == 3 then
  (bif c.goal||(!aF c.id ⟨#[]⟩||(decide (0<c.attr.length)||(decide (0<c.value.length)||(c.acc||decide (c.conds.length=0)))))then 9 else bif decide (3<=deep)then 8 else 0)
 else bif (c.kind == 1)||(c.kind == 2)then
  (bif decide (0<c.conds.length)||(!iX c.id||decide (c.attr.length=0))then 9 else
   bif decide (4<c.attr.length)||decide (4<c.value.length)then 7 else
   bif !(c.attr.all dF)|| !(c.value.all dF)then 9 else 0)
 else 9
def cR:List (Nat×Nat×ae)->Option (Nat×Int)
 |[]=>none
 |(a,d,c)::l=>bif bw c d == 0 then cR l else some (a,bw c d)
theorem fH(a b:List (Nat×Nat×ae)):cR (a++b)=(cR a).or (cR b):=by
 induction a with
 |nil=>rfl
 |cons x a ih=>
  obtain⟨p,d,c⟩:=x;simp only[cons_append,cR];cases bw c d == 0
  ·rfl
  ·exact ih
def ib:Nat->List cT->Option Nat
 |_,[]=>none
 |i,a::l=>bif iR a then ib (i+1) l else some i
theorem Im{l:List cT}{k i:Nat}(hk:k<l.length)(h:ib i (l.take k)=none):ib i (l.take (k+1))=(bif iR l[k]then none else some (i+k)):=by
 induction l generalizing k i with
 |nil=>simp at hk
 |cons a l ih=>
  cases k with
  |zero=>simp[ib]
  |succ k=>
   simp only[List.take_succ_cons,ib,List.getElem_cons_succ]at h |-;cases ha:iR a with
   |false=>rw[ha]at h;cases h
   |true=>
    rw[ha]at h;simp only[cond_true]at h |-;rw[ih (by simpa using hk) h];congr 2;omega
theorem Ky{l:List cT}{k i:Nat}(hk:k<l.length)(h:ib i (l.take k)=none)(ha:iR l[k]=false):ib i l=some (i+k):=by
 induction l generalizing k i with
 |nil=>simp at hk
 |cons a l ih=>
  cases k with
  |zero=>simp only[List.getElem_cons_zero]at ha;simp[ib,ha]
  |succ k=>
   simp only[List.take_succ_cons,ib,List.getElem_cons_succ]at h ha |-;cases hb:iR a with
   |false=>rw[hb]at h;cases h
   |true=>
    rw[hb]at h;simp only[cond_true]at h |-;rw[ih (by simpa using hk) h ha];congr 1;omega
def lu(p:Prod):Int×Int:=
 match cR (cX p.conds 0 0)with
 |some (a,e)=>(a,e)
 |none=>match ib 0 p.bk with
  |some i=>(((ah p.conds+i:Nat):Int),9)
  |none=>(-1,0)
def cU(p:Prod):Int×Int:=
 bif !iX p.name then(-1,2)else
 bif decide (ah p.conds<1)||(decide (16<ah p.conds)||(decide (p.bk.length<1)||decide (16<p.bk.length)))then(-1,7)else lu p
theorem GZ{p:Prod}{a:Nat}{e:Int}(h:cR (cX p.conds 0 0)=some (a,e)):lu p=((a:Int),e):=by simp only[lu,h]
theorem G_{p:Prod}{i:Nat}(h:cR (cX p.conds 0 0)=none)(h2:ib 0 p.bk=some i):lu p=(((ah p.conds+i:Nat):Int),9):=by simp only[lu,h,h2]
theorem Dg{p:Prod}(h:cR (cX p.conds 0 0)=none)(h2:ib 0 p.bk=none):lu p=(-1,0):=by simp only[lu,h,h2]
theorem rp{l:List (Nat×Nat×ae)}{a:Nat}{e:Int}(h:cR l=some (a,e)):e≠0:=by
 induction l with
 |nil=>cases h
 |cons x l ih=>
  obtain⟨p,d,c⟩:=x;simp only[cR]at h;cases hc:bw c d == 0 with
  |true=>rw[hc]at h;exact ih h
  |false=>
   rw[hc]at h;simp only[cond_false,Option.some.injEq,Prod.mk.injEq]at h;rw[<- h.2];simpa using hc
theorem Ik{l:List (Nat×Nat×ae)}{k:Nat}{x:Nat×Nat×ae}(hx:l[k]?=some x)(h:cR (l.take k)=none):cR (l.take (k+1))=(bif bw x.2.2 x.2.1 == 0 then none else some (x.1,bw x.2.2 x.2.1)):=by
 rw[take_add_one,fH,h,hx];obtain⟨a,d,c⟩:=x;simp[cR]
theorem Il{l:List (Nat×Nat×ae)}{k:Nat}{r:Nat×Int}(h:cR (l.take k)=some r):cR l=some r:=by
 have:=fH (l.take k) (l.drop k);rw[take_append_drop,h]at this;exact this
theorem MG(s:Sym):Pure prog 284 [.agg s.pv] (pB (si s)):=au.of (Gg.c rfl)
theorem SO(a:Atom):Pure prog 250 [.agg a.pv] (pB (tK a)):=by
 refine au.of (CN.c ?_);refine ab.mk (λh=>(MG a.sym).call ⟨_,rfl,?_⟩) (λh=>?_)<;>simp_all [tK,wk,bU]
theorem KS(s:Sym):Pure prog 285 [.agg s.pv] (pB (lS s)):=by
 refine au.of (xU.c ?_);refine ab.mk (λh=>(FK s).call ⟨_,rfl,?_⟩) (λh=>?_)<;>simp_all [lS,wk,bU]
theorem MP(a:Atom):Pure prog 247 [.agg a.pv] (pB (je a)):=by
 refine au.of (Gi.c ?_);refine ab.mk (λh=>(Eb a.var).call ⟨_,rfl,ab.mk (λh2=>(MG a.sym).call ⟨_,rfl,?_⟩) (λh2=>?_)⟩) (λh=>(KS a.sym).call ⟨_,rfl,?_⟩)<;>simp_all [je,si,wk,bU]
theorem qG(a:Atom):Pure prog 203 [.agg a.pv] (pB (je a)):=by
 refine au.of (ug.c ?_);refine ab.mk (λh=>(qE a.var).call ⟨_,rfl,ab.mk (λh2=>?_) (λh2=>?_)⟩) (λh=>(xJ a.sym).call ⟨_,rfl,?_⟩)<;>simp_all [je,si,wk,bU]
theorem zO{T:Type}{f:FuncId}{p:T->Bool}{l:List T}{n:Nat}{body:(Int->Mem->Prop)->Int->Mem->Prop}{u:Mem}(hl:l.length=n)(hn:n<9223372036854775808)(cQ:l.all p=false->∀u next,False->body next 0 u)
  (fE:∀(k:Nat) (hk:k<l.length) (u:Mem) (next:Int->Mem->Prop),(p l[k]=true->∀u',next (wrap .i64 ((k:Int)+1)) u')->(p l[k]=false->l.all p=false)->body next (k:Int) u) (eZ:∀(u:Mem) (next:Int->Mem->Prop),l.all p=true->body next (n:Int) u):ak body 0 u:=by
 refine ak.each (n:=n) hn (λk u=>(l.take k).all p=true) (by simp) ?_ ?_
 ·intro k u next hk hg av
  have bZ:k<l.length:=by omega
  exact fE k bZ u next (λhp u'=>av u' (by rw[FU bZ hg];exact hp)) (λhp=>FV bZ hp)
 ·intro u next hg
  rw[<- hl,take_length]at hg;exact eZ u next hg
theorem ad1(fl:Fl)(t:Test)(ht:t.list.length<=1000000):Pure prog 283 [.agg [pI t.rel,pS t.var,pI t.sym.k,pS t.sym.t,pI t.sym.n,.list 3 fl (t.list.map Sym.pv)]] (pB (dF t)):=by
 refine au.of (Ge.c ?_);refine ab.mk (λh8=>?_) (λh8=>?_)
 ·refine ab.mk (λh1=>?_) (λh1=>(MG t.sym).call ⟨_,rfl,ab.mk (λh2=>?_) (λh2=>ab.mk (λh3=>?_) (λh3=>ab.mk (λh4=>?_) (λh4=>?_)))⟩)
  ·simp[dF,h8,nb h1,wk,bU]
  ·simp[dF,h8,nb h2,wk,bU]
  ·have:¬1<=t.list.length:=by simp at h3;omega
   simp[dF,h8,this,wk,bU]
  ·have:¬t.list.length<=8:=by simp at h4;omega
   simp[dF,h8,this,wk,bU]
  ·have e3:1<=t.list.length:=by simp at h3;omega
   have e4:t.list.length<=8:=by simp at h4;omega
   have hb:dF t=t.list.all lS:=by simp[dF,h8,nt h1,nt h2,e3,e4]
   rw[hb];refine zO (p:=lS) (l:=t.list) (f:=0) rfl (by omega) (λ_ _ _ h=>h.elim) (λk hk u next hy cQ=>?_) (λu next ha=>ab.f (by simp) (by rw[ha];rfl));refine ab.t (by simpa using hk) ⟨by omega,_,aC hk,_,_,_,rfl,(KS t.list[k]).call ⟨_,rfl,ab.mk (λa=>?_) (λa=>hy (by simpa using a) _)⟩⟩;rw[cQ (by simpa using a)];rfl
 ·refine ab.mk (λh1=>?_) (λh1=>ab.mk (λh2=>?_) (λh2=>ab.mk (λh3=>?_) (λh3=>?_)))
  ·have:¬1<=t.rel:=by simp at h1;omega
   simp[dF,h8,this,wk,bU]
  ·have:¬t.rel<=7:=by simp at h2;omega
   simp[dF,h8,this,wk,bU]
  ·have:¬t.list.length=0:=by simp at h3;omega
   simp[dF,h8,this,wk,bU]
  ·have e1:1<=t.rel:=by simp at h1;omega
   have e2:t.rel<=7:=by simp at h2;omega
   have e3:t.list.length=0:=by simpa using h3
   have hb:dF t=je ⟨t.var,t.sym⟩:=by simp[dF,h8,e1,e2,e3]
   rw[hb];refine ab.mk (λh=>(Eb t.var).call ⟨_,rfl,ab.mk (λh2=>(MG t.sym).call ⟨_,rfl,?_⟩) (λh2=>?_)⟩) (λh=>(KS t.sym).call ⟨_,rfl,?_⟩)<;>simp_all [je,si,wk,bU]
theorem SA(fl:Fl)(t:Test)(ht:t.list.length<=1000000):Pure prog 287 [.agg [pI t.rel,pS t.var,pI t.sym.k,pS t.sym.t,pI t.sym.n,.list 3 fl (t.list.map Sym.pv)]] (pB (dF t)):=by
 refine au.of (uc.c ?_);refine ab.mk (λh8=>?_) (λh8=>?_)
 ·refine ab.mk (λh1=>?_) (λh1=>ab.mk (λh2=>?_) (λh2=>ab.mk (λh3=>?_) (λh3=>ab.mk (λh4=>?_) (λh4=>?_))))
  ·simp_all [dF,wk,bU]
  ·have:si t.sym=false:=nb h2;simp[dF,h8,this,wk,bU]
  ·have:¬1<=t.list.length:=by simp at h3;omega
   simp[dF,h8,this,wk,bU]
  ·have:¬t.list.length<=8:=by simp at h4;omega
   simp[dF,h8,this,wk,bU]
  ·have e2:si t.sym=true:=nt h2;have e3:1<=t.list.length:=by simp at h3;omega
   have e4:t.list.length<=8:=by simp at h4;omega
   have e1:aF t.var ⟨#[]⟩=true:=by simpa using h1
   have hb:dF t=t.list.all lS:=by simp[dF,h8,e1,e2,e3,e4]
   rw[hb];refine zO (p:=lS) (l:=t.list) (f:=0) rfl (by omega) (λ_ _ _ h=>h.elim) (λk hk u next hy cQ=>?_) (λu next ha=>ab.f (by simp) (by rw[ha];rfl));refine ab.t (by simpa using hk) ⟨by omega,_,aC hk,_,_,_,rfl,(xJ t.list[k]).call ⟨_,rfl,ab.mk (λa=>?_) (λa=>hy (by simpa using a) _)⟩⟩;rw[cQ (by simpa using a)];rfl
 ·refine ab.mk (λh1=>ab.mk (λh2=>ab.mk (λh3=>(qG ⟨t.var,t.sym⟩).call ⟨_,rfl,?_⟩) (λh3=>?_)) (λh2=>?_)) (λh1=>?_)
  ·have e3:t.list.length=0:=by simpa using h3
   have e1:1<=t.rel:=by simpa using h1
   have e2:t.rel<=7:=by simpa using h2
   simp[dF,h8,e1,e2,e3,wk,bU]
  ·have e3:¬t.list.length=0:=by simpa using h3
   simp[dF,h8,e3,wk,bU]
  ·have e2:¬t.rel<=7:=by simpa using h2
   simp[dF,h8,e2,wk,bU]
  ·have e1:¬1<=t.rel:=by simpa using h1
   simp[dF,h8,e1,wk,bU]
theorem Ss(fl:Fl)(l:List Test)(hl:l.length<=1000000)(ht:∀t∈l,t.list.length<=1000000):Pure prog 246 [.list 6 fl (l.map Test.pv)] (pB (l.all dF)):=by
 refine au.of (CL.c ?_);refine zO (p:=dF) (l:=l) (f:=0) rfl (by omega) (λ_ _ _ h=>h.elim) (λk hk u next hy cQ=>?_) (λu next ha=>ab.f (by simp) (by rw[ha];rfl));refine ab.t (by simpa using hk) ⟨by omega,_,aC hk,_,_,_,_,_,_,_,rfl,(ad1 .sh l[k] (ht _ (getElem_mem hk))).call ⟨_,rfl,ab.mk (λa=>?_) (λa=>hy (by simpa using a) _)⟩⟩;rw[cQ (by simpa using a)];rfl
theorem Ec(fl:Fl)(l:List Test)(hl:l.length<=1000000)(ht:∀t∈l,t.list.length<=1000000):Pure prog 259 [.list 6 fl (l.map Test.pv)] (pB (l.all dF)):=by
 refine au.of (rO.c ?_);refine zO (p:=dF) (l:=l) (f:=0) rfl (by omega) (λ_ _ _ h=>h.elim) (λk hk u next hy cQ=>?_) (λu next ha=>ab.f (by simp) (by rw[ha];rfl));refine ab.t (by simpa using hk) ⟨by omega,_,aC hk,_,_,_,_,_,_,_,rfl,(SA .sh l[k] (ht _ (getElem_mem hk))).call ⟨_,rfl,ab.mk (λa=>?_) (λa=>hy (by simpa using a) _)⟩⟩;rw[cQ (by simpa using a)];rfl
theorem Sp(a:Atom):Pure prog 286 [.agg a.pv] (pB (CY a)):=by
 refine au.of (Gd.c ?_);refine ab.mk (λh=>?_) (λh=>?_)<;>simp_all [CY,wk,bU]
theorem ZX(k:Int):Pure prog 249 [pI k] (pB (AF k)):=by
 refine au.of (CM.c ?_);refine ab.mk (λh=>?_) (λh=>ab.mk (λh2=>?_) (λh2=>?_))<;>simp[AF,wk,bU, *]
theorem ad2(t:Term):Pure prog 248 [.agg t.pv] (pB (ll t)):=by
 refine au.of (Gf.c ?_)
 refine ab.mk (λh=>?_) (λh=>ab.mk (λh2=>?_) (λh2=>(MP t.a).call ⟨_,rfl,ab.mk (λh3=>?_) (λh3=>ab.mk (λh4=>(SO t.b).call ⟨_,rfl,?_⟩)
  (λh4=>(MP t.b).call ⟨_,rfl,ab.mk (λh5=>(Sp t.a).call ⟨_,rfl,ab.mk (λh6=>(Sp t.b).call ⟨_,rfl,?_⟩) (λh6=>?_)⟩) (λh5=>?_)⟩))⟩))
 ·have:¬0<=t.op:=by simp at h;omega
  simp[ll,this,wk,bU]
 ·have:¬t.op<=3:=by simp at h2;omega
  simp[ll,this,wk,bU]
 all_goals
  have e1:0<=t.op:=by simp at h;omega
  have e2:t.op<=3:=by simp at h2;omega
  grind [ll,wk,bU]
theorem aij(a:cT):Pure prog 192 [.agg a.pv] (pB (iR a)):=by
 refine au.of (IT.c ?_)
 refine(Eb a.id).call ⟨_,rfl,ab.mk (λh1=>?_) (λh1=>(MP a.attr).call ⟨_,rfl,ab.mk (λh2=>?_) (λh2=>(ad2 a.value).call ⟨_,rfl,ab.mk (λh3=>?_) (λh3=>ab.mk (λh4=>?_) (λh4=>ab.mk (λh5=>?_)
  (λh5=>(ZX a.p_).call ⟨_,rfl,ab.mk (λh6=>(MP a.other).call ⟨_,rfl,?_⟩) (λh6=>(SO a.other).call ⟨_,rfl,?_⟩)⟩)))⟩)⟩)⟩
 ·simp_all [iR,wk,bU]
 ·simp_all [iR,wk,bU]
 ·simp_all [iR,wk,bU]
 ·have:¬1<=a.p_:=by simp at h4;omega
  simp[iR,this,wk,bU]
 ·have:¬a.p_<=10:=by simp at h5;omega
  simp[iR,this,wk,bU]
 all_goals
  have e1:1<=a.p_:=by simp at h4;omega
  have e2:a.p_<=10:=by simp at h5;omega
  simp_all [iR,wk,bU]
theorem ru{a:Atom}(h:je a=true):(a.sym.k == 3)=CY a:=by
 unfold je at h;unfold CY;cases hv:aF a.var ⟨#[]⟩with
 |true=>simp
 |false=>
  rw[hv]at h;simp only[cond_false,Bool.and_eq_true,si]at h;have:a.sym.k=0:=by simpa using h.2.1
  simp[this]
theorem VN(a:cT):Pure prog 138 [.agg a.pv] (pB (iR a)):=by
 refine au.of (wo.c ?_);refine(qE a.id).call ⟨_,rfl,ab.mk (λh1=>?_) (λh1=>(qG a.attr).call ⟨_,rfl,ab.mk (λh2=>?_) (λh2=>(qG a.value.a).call ⟨_,rfl,ab.mk (λh3=>?_) (λh3=>ab.mk (λh4=>?_) (λh4=>ab.mk (λh5=>?_) (λh5=>ab.mk (λh6=>?_) (λh6=>ab.mk (λh7=>?_) (λh7=>?_)))))⟩)⟩)⟩
 ·simp_all [iR,wk,bU]
 ·simp_all [iR,wk,bU]
 ·simp_all [iR,ll,wk,bU]
 ·have:¬0<=a.value.op:=by simp at h4;omega
  simp[iR,ll,this,wk,bU]
 ·have:¬a.value.op<=3:=by simp at h5;omega
  simp[iR,ll,this,wk,bU]
 ·have:¬1<=a.p_:=by simp at h6;omega
  simp[iR,this,wk,bU]
 ·have:¬a.p_<=10:=by simp at h7;omega
  simp[iR,this,wk,bU]
 ·have e4:0<=a.value.op:=by simp at h4;omega
  have e5:a.value.op<=3:=by simp at h5;omega
  have e6:1<=a.p_:=by simp at h6;omega
  have e7:a.p_<=10:=by simp at h7;omega
  have e1:iX a.id=true:=by simpa using h1
  have e2:je a.attr=true:=by simpa using h2
  have e3:je a.value.a=true:=by simpa using h3
  refine⟨λ_ _=>ll a.value=true,?_,?_⟩
  ·refine ab.mk (λa1=>ab.mk (λa2=>?_) (λa2=>?_)) (λa1=>(qG a.value.b).call ⟨_,rfl,ab.mk (λa2=>?_) (λa2=>ab.mk (λa3=>?_) (λa3=>ab.mk (λa4=>?_) (λa4=>?_)))⟩)
   ·have:tK a.value.b=false:=nb a2;simp[iR,ll,a1,this,wk,bU]
   ·have:tK a.value.b=true:=nt a2;simp[ll,e4,e5,e3,a1,this]
   ·have:je a.value.b=false:=by simpa using a2
    simp[iR,ll,a1,this,wk,bU]
   ·rw[ru e3]at a3;simp[iR,ll,a1,a3,wk,bU]
   ·have b1:je a.value.b=true:=by simpa using a2
    rw[ru b1]at a4;simp[iR,ll,a1,a4,wk,bU]
   ·have b1:je a.value.b=true:=by simpa using a2
    rw[ru e3]at a3;rw[ru b1]at a4;simp[ll,e4,e5,e3,a1,a3,a4,b1]
  ·rintro _ u ht;have ho:AF a.p_=decide (a.p_>=8):=by
    simp only[AF];rw[Bool.eq_iff_iff];simp;omega
   refine ab.mk (λa1=>(qG a.other).call ⟨_,rfl,?_⟩) (λa1=>?_)
   ·simp[iR,e1,e2,ht,e6,e7,ho,a1,wk,bU]
   ·have:tK a.other=(aF a.other.var ⟨#[]⟩&&((a.other.sym.k == 0)&&(aF a.other.sym.t ⟨#[]⟩&&((a.other.sym.n == 0)&&true)))):=rfl;simp only[iR,e1,e2,ht,e6,e7,ho,a1,this,wk,bU];simp
theorem zI{n:Nat}{b:Bool}(h:decide (((n:Nat):Int)>0)=b):decide (0<n)=b:=by rw[<- h];simp
theorem GD{n:Nat}{b:Bool}(h:(((n:Nat):Int) == 0)=b):decide (n=0)=b:=by
 rw[<- h,Bool.eq_iff_iff];simp
theorem GB{n:Nat}{b:Bool}(h:decide (((n:Nat):Int)>4)=b):decide (4<n)=b:=by
 rw[<- h,Bool.eq_iff_iff];simp;omega
theorem aaj(c:ae)(deep:Int)(hl:cW c):Pure prog 191 [.agg c.pv,pI deep] (pI (bw c deep)):=by
 obtain⟨_,ha,hv,Ja,NY,_⟩:=(bG c).1 hl;rw[ae.cH];refine au.of (Gh.c ?_);have e3:c.kind == 3->c.kind=3:=λh=>by simpa using h
 refine⟨λ_ _=>(c.kind == 3)=false/\((c.kind == 1)||(c.kind == 2))=true,?_,?_⟩
 ·refine ab.mk (λh3=>?_) (λh3=>?_)
  ·refine ab.mk (λh=>?_) (λh=>ab.mk (λh1=>?_) (λh1=>ab.mk (λh2=>?_) (λh2=>ab.mk (λh4=>?_) (λh4=>ab.mk (λh5=>?_) (λh5=>ab.mk (λh6=>?_) (λh6=>ab.mk (λh7=>?_) (λh7=>?_)))))))
   ·simp[bw,h3,h,wk,bU]
   ·simp[bw,h3,nb h1,wk,bU]
   ·rw[length_map]at h2;simp only[bw,h3,zI h2,wk,bU];simp
   ·rw[length_map]at h4;simp only[bw,h3,zI h4,wk,bU];simp
   ·simp[bw,h3,h5,wk,bU]
   ·rw[length_map]at h6;simp only[bw,h3,GD h6,wk,bU];simp
   ·rw[length_map]at h2 h4 h6;have:decide (3<=deep)=true:=h7;simp only[bw,h3,h,nt h1,zI h2,zI h4,h5,GD h6,this,wk,bU];rfl
   ·rw[length_map]at h2 h4 h6;have:decide (3<=deep)=false:=h7;simp only[bw,h3,h,nt h1,zI h2,zI h4,h5,GD h6,this,wk,bU];rfl
  ·refine ab.mk (λh1=>ab.mk (λh2=>⟨h3,by simp[h1]⟩) (λh2=>by rw[h1]at h2;cases h2)) (λh1=>ab.mk (λh2=>⟨h3,by simp[h2]⟩) (λh2=>?_));simp[bw,h3,h1,h2,wk,bU]
 ·rintro _ u ⟨h3,lO⟩;refine ab.mk (λh=>?_) (λh=>(Eb c.id).call ⟨_,rfl,ab.mk (λh1=>?_) (λh1=>ab.mk (λh2=>?_) (λh2=>ab.mk (λh4=>?_) (λh4=>ab.mk (λh5=>?_) (λh5=>(Ss .sh c.attr (by omega) (cI Ja)).call ⟨_,rfl,ab.mk (λh6=>?_) (λh6=>(Ss .sh c.value (by omega) (cI NY)).call ⟨_,rfl,ab.mk (λh7=>?_) (λh7=>?_)⟩)⟩))))⟩)
  ·rw[length_map]at h;simp only[bw,h3,lO,zI h,wk,bU];rfl
  ·simp only[bw,h3,lO,nb h1,wk,bU];simp
  ·rw[length_map]at h2;simp only[bw,h3,lO,GD h2,wk,bU];simp
  all_goals rw[length_map]at h h2 h4
  ·simp only[bw,h3,lO,zI h,nt h1,GD h2,GB h4,wk,bU];simp
  all_goals rw[length_map]at h5
  ·simp only[bw,h3,lO,zI h,nt h1,GD h2,GB h4,GB h5,wk,bU];simp
  ·simp only[bw,h3,lO,zI h,nt h1,GD h2,GB h4,GB h5,nb h6,wk,bU];simp
  ·simp only[bw,h3,lO,zI h,nt h1,GD h2,GB h4,GB h5,nt h6,nb h7,wk,bU];simp
  ·simp only[bw,h3,lO,zI h,nt h1,GD h2,GB h4,GB h5,nt h6,nt h7,wk,bU];simp
theorem OF(c:ae)(deep:Int)(hl:cW c):Pure prog 202 [.agg c.pv,pI deep] (pI (bw c deep)):=by
 obtain⟨_,ha,hv,Ja,NY,_⟩:=(bG c).1 hl;rw[ae.cH];refine au.of (uf.c ?_);refine ab.mk (λk1=>?_) (λk1=>ab.mk (λk2=>?_) (λk2=>ab.mk (λh3=>?_) (λh3=>?_)))
 ·have a1:(c.kind == 3)=false:=by simp at k1 |-;omega
  have a2:((c.kind == 1)||(c.kind == 2))=false:=by simp at k1 |-;omega
  simp only[bw,a1,a2,wk,bU];rfl
 ·have a1:(c.kind == 3)=false:=by simp at k2 |-;omega
  have a2:((c.kind == 1)||(c.kind == 2))=false:=by simp at k2 |-;omega
  simp only[bw,a1,a2,wk,bU];rfl
 ·refine ab.mk (λh=>?_) (λh=>ab.mk (λh1=>?_) (λh1=>ab.mk (λh2=>?_) (λh2=>ab.mk (λh4=>?_) (λh4=>ab.mk (λh5=>?_) (λh5=>ab.mk (λh6=>?_) (λh6=>ab.mk (λh7=>?_) (λh7=>?_)))))))
  ·simp[bw,h3,h,wk,bU]
  ·simp[bw,h3,nb h1,wk,bU]
  ·rw[length_map]at h2;simp only[bw,h3,zI h2,wk,bU];simp
  ·rw[length_map]at h4;simp only[bw,h3,zI h4,wk,bU];simp
  ·simp[bw,h3,h5,wk,bU]
  ·rw[length_map]at h6;simp only[bw,h3,GD h6,wk,bU];simp
  ·rw[length_map]at h2 h4 h6;have:decide (3<=deep)=true:=h7;simp only[bw,h3,h,nt h1,zI h2,zI h4,h5,GD h6,this,wk,bU];rfl
  ·rw[length_map]at h2 h4 h6;have:decide (3<=deep)=false:=h7;simp only[bw,h3,h,nt h1,zI h2,zI h4,h5,GD h6,this,wk,bU];rfl
 ·have lO:((c.kind == 1)||(c.kind == 2))=true:=by simp at k1 k2 h3 |-;omega
  refine ab.mk (λh=>?_) (λh=>(qE c.id).call ⟨_,rfl,ab.mk (λh1=>?_) (λh1=>ab.mk (λh2=>?_) (λh2=>ab.mk (λh4=>?_) (λh4=>ab.mk (λh5=>?_) (λh5=>(Ec .sh c.attr (by omega) (cI Ja)).call ⟨_,rfl,ab.mk (λh6=>?_) (λh6=>(Ec .sh c.value (by omega) (cI NY)).call ⟨_,rfl,ab.mk (λh7=>?_) (λh7=>?_)⟩)⟩))))⟩)
  ·rw[length_map]at h;simp only[bw,h3,lO,zI h,wk,bU];rfl
  ·simp only[bw,h3,lO,nb h1,wk,bU];simp
  ·rw[length_map]at h2;simp only[bw,h3,lO,GD h2,wk,bU];simp
  all_goals rw[length_map]at h h2 h4
  ·simp only[bw,h3,lO,zI h,nt h1,GD h2,GB h4,wk,bU];simp
  all_goals rw[length_map]at h5
  ·simp only[bw,h3,lO,zI h,nt h1,GD h2,GB h4,GB h5,wk,bU];simp
  ·simp only[bw,h3,lO,zI h,nt h1,GD h2,GB h4,GB h5,nb h6,wk,bU];simp
  ·simp only[bw,h3,lO,zI h,nt h1,GD h2,GB h4,GB h5,nt h6,nb h7,wk,bU];simp
  ·simp only[bw,h3,lO,zI h,nt h1,GD h2,GB h4,GB h5,nt h6,nt h7,wk,bU];simp
theorem qF:∀(n:Nat) (fl:Fl) (l:List ae),ah l<=n->ah l<=1000000->Pure prog 80 [.list 7 fl (l.map ae.pv)] (pI (ah l:Nat)):=by
 intro n;induction n with
 |zero=>
  intro fl l h _;have:l=[]:=by
   cases l with
   |nil=>rfl
   |cons c l=>simp[ah,bN]at h
  subst this;refine au.of (lY.c ?_);exact ak.dd (n:=0) (by omega) (λk x u=>x=0) rfl (λk x u next hk=>by omega) (λx u next hx=>by subst hx;exact ab.f (by simp) rfl)
 |succ n ih=>
  intro fl l h h6;refine au.of (lY.c ?_);have rD:=cK l;refine ak.dd (n:=l.length) (by omega) (λk x u=>x=((ah (l.take k):Nat):Int)) (by simp[ah]) ?_ ?_
  ·rintro k _ u next hk rfl av
   have hm:=dz (getElem_mem hk);have hs:=jH l (k+1);rw[eH hk]at hs;refine ab.t (by simpa using hk) ⟨by omega,_,aC hk,.sh,l[k].conds.map ae.pv,by rw[ae.cH];rfl,(ih .sh l[k].conds (by omega) (by omega)).call ⟨_,rfl,?_⟩⟩;dsimp only;rw[aD (x:=(1:Int)+_) (by omega) (by omega),aD (x:=((ah (l.take k):Nat):Int)+_) (by omega) (by omega)];exact av _ _ (by rw[eH hk];omega)
  ·rintro _ u next rfl
   refine ab.f (by simp) ?_;rw[take_length];rfl
def tM(l:List ae)(a d:Nat):PV:=match cR (cX l a d)with
 |some (x,e)=>.az [pI (x:Nat),pI e]
 |none=>.az [pI (-1),pI 0]
theorem OE:∀(n:Nat) (fl:Fl) (l:List ae) (a d:Nat),ah l<=n->bX l->a+ah l<=1000000->d+ah l<=1000000->Pure prog 137 [.list 7 fl (l.map ae.pv),pI (a:Nat),pI (d:Nat)] (tM l a d):=by
 intro n;induction n with
 |zero=>
  intro fl l a d h _ _ _;have:l=[]:=by
   cases l with
   |nil=>rfl
   |cons c l=>simp[ah,bN]at h
  subst this;refine au.of (kG.c ?_);exact ak.dd (n:=0) (by omega) (λk x u=>True) trivial (λk x u next hk=>by omega) (λx u next hx=>ab.f (by simp) rfl)
 |succ n ih=>
  intro fl l a d h bI ha hd;refine au.of (kG.c ?_);have rD:=cK l;refine ak.dd (n:=l.length) (by omega) (λk x u=>x=((a+ah (l.take k):Nat):Int)/\cR (cX (l.take k) a d)=none) ⟨by simp[ah],rfl⟩ ?_ ?_
  ·rintro k _ u next hk ⟨rfl,hf⟩ av
   have hm:=dz (getElem_mem hk);have hs:=jH l (k+1);rw[eH hk]at hs;have Fj:=cE.1 bI _ (getElem_mem hk);have fK:=LM hk a d;refine ab.t (by simpa using hk) ⟨by omega,_,aC hk,_,_,_,_,_,_,_,_,_,_,by rw[ae.cH];rfl,?_⟩;have hc:=OF l[k] d Fj;rw[ae.cH]at hc;refine hc.call ⟨_,rfl,ab.mk (λh1=>?_) (λh1=>?_)⟩
   ·have h1:(bw l[k] d == 0)=false:=by simpa using h1
    have:cR (cX l a d)=some (a+ah (l.take k),bw l[k] d):=by
     rw[fK,append_assoc,fH,hf,none_or,cons_append,cR,h1];rfl
    simp only[tM,this];rfl
   ·have h1:(bw l[k] d == 0)=true:=by simpa using h1
    refine⟨by omega,_,aC hk,.sh,l[k].conds.map ae.pv,by rw[ae.cH];rfl,?_⟩;have ihk:=ih .sh l[k].conds (a+ah (l.take k)+1) (d+1) (by omega) ((bG _).1 Fj).2.2.2.2.2 (by omega) (by omega);rw[aD (by omega) (by omega),aD (by omega) (by omega)];refine ihk.call ?_;cases Xh:cR (cX l[k].conds (a+ah (l.take k)+1) (d+1))with
    |some r=>
     obtain⟨x,e⟩:=r;have aQ:=rp Xh;have:cR (cX l a d)=some (x,e):=by
      rw[fK,append_assoc,fH,hf,none_or,cons_append,cR,h1,cond_true,fH,Xh];rfl
     simp only[tM,Xh,this];exact⟨_,_,rfl,ab.t (by simpa using aQ) rfl⟩
    |none=>
     simp only[tM,Xh];refine⟨_,_,rfl,ab.f rfl ⟨by omega,_,aC hk,.sh,l[k].conds.map ae.pv,by rw[ae.cH];rfl,(qF _ .sh l[k].conds (le_refl _) (by omega)).call ⟨_,rfl,?_⟩⟩⟩;rw[aD (x:=(1:Int)+_) (by omega) (by omega),aD (x:=((a+ah (l.take k):Nat):Int)+_) (by omega) (by omega)];refine av _ _ ⟨by rw[eH hk];omega,?_⟩;rw[Dq hk,fH,hf,none_or,cR,h1,cond_true];exact Xh
  ·rintro _ u next ⟨rfl,hf⟩
   refine ab.f (by simp) ?_;rw[take_length]at hf;simp only[tM,hf];rfl
theorem MC(fy:Fn)(ya yb:List PV)(hy:Bu fy True)(I:Nat->Mem->Prop)(S:Mem->Prop):∀(n:Nat) (fl:Fl) (l:List ae) (a d j:Nat) (μ:Mem),ah l<=n->a+ah l<=1000000->d+ah l<=1000000->I j μ->
  (∀(k:Nat) (x:Nat×Nat×ae) (μ:Mem),(cX l a d)[k]?=some x->I (j+k) μ->bJ prog (.fn fy ya yb) [pI (x.1:Nat),pI (x.2.1:Nat),.agg x.2.2.pv] μ λv μ'=>(v=pB true/\I (j+k+1) μ')\/(v=pB false/\S μ'))->
  aa prog 188 [.list 7 fl (l.map ae.pv),pI (a:Nat),pI (d:Nat),.fn fy ya yb] μ λp μ'=>(p=.az [pI ((a+ah l:Nat):Int),pB true]/\I (j+ah l) μ')\/∃x:Int,p=.az [pI x,pB false]/\S μ':=by
 intro n;induction n with
 |zero=>
  intro fl l a d j μ h _ _ hI _;have:l=[]:=by
   cases l with
   |nil=>rfl
   |cons c l=>simp[ah,bN]at h
  subst this;refine vT.c ?_;exact ak.dd (n:=0) (by omega) (λk x u=>x=(a:Int)/\I j u) ⟨rfl,hI⟩ (λk x u next hk=>by omega) (λx u next hx=>by obtain⟨rfl,hx⟩:=hx;exact ab.f (by simp) (.inl ⟨rfl,hx⟩))
 |succ n ih=>
  intro fl l a d j μ h ha hd hI cO;refine vT.c ?_;have rD:=cK l;refine ak.dd (n:=l.length) (by omega) (λk x u=>x=((a+ah (l.take k):Nat):Int)/\I (j+ah (l.take k)) u) ⟨by simp[ah],by simpa[ah]using hI⟩ ?_ ?_
  ·rintro k _ u next hk ⟨rfl,Xp⟩ av
   have hm:=dz (getElem_mem hk);have hs:=jH l (k+1);rw[eH hk]at hs;have fK:=LM hk a d;have oA:=ns (l.take k) a d;refine ab.t (by simpa using hk) ⟨by omega,_,aC hk,_,_,_,_,_,_,_,_,_,_,by rw[ae.cH];rfl,?_⟩
   have h0:=cO (ah (l.take k)) (a+ah (l.take k),d,l[k]) u (by
    rw[fK,append_assoc,List.getElem?_append_right (by omega),oA];simp) Xp
   rw[ae.cH]at h0;refine h0.mono ?_;rintro v μ1 (⟨rfl,k_⟩|⟨rfl,hS⟩)
   ·refine⟨_,rfl,ab.f rfl ?_⟩;rw[aD (by omega) (by omega),aD (by omega) (by omega)]
    have ihk:=ih .sh l[k].conds (a+ah (l.take k)+1) (d+1) (j+ah (l.take k)+1) μ1 (by omega) (by omega) (by omega) k_ (λk' x μ' hx dG=>by
     have hlen:=ns l[k].conds (a+ah (l.take k)+1) (d+1)
     have bZ:k'<ah l[k].conds:=by rw[<- hlen];exact(List.getElem?_eq_some_iff.1 hx).1
     have:=cO (ah (l.take k)+1+k') x μ' (by
      rw[fK,append_assoc,List.getElem?_append_right (by omega),oA]
      have:ah (l.take k)+1+k'-ah (l.take k)=k'+1:=by omega
      rw[this,cons_append,List.getElem?_cons_succ,List.getElem?_append_left (by omega)]
      exact hx) (by rw[<- add_assoc,<- add_assoc];exact dG)
     rw[<- add_assoc,<- add_assoc]at this
     exact this)
    refine aa.mono ihk ?_;rintro v μ2 (⟨rfl,yH⟩|⟨x,rfl,hS⟩)
    ·refine⟨_,_,rfl,ab.f rfl (av _ _ ⟨by rw[eH hk];omega,?_⟩)⟩;rw[eH hk,<- add_assoc,<- add_assoc];exact yH
    ·exact⟨_,_,rfl,ab.t rfl (.inr ⟨x,rfl,hS⟩)⟩
   ·exact⟨_,rfl,ab.t rfl (.inr ⟨_,rfl,hS⟩)⟩
  ·rintro _ u next ⟨rfl,Xp⟩
   refine ab.f (by simp) (.inl ?_);rw[take_length]at Xp |-;exact⟨rfl,Xp⟩
theorem kM{μ:Mem}{b:Nat}{T:TypeId}{p:PV}(h:μ b=some (.cells T [p])):ay μ b 0 1=some [p]:=by simp[ay,h]
theorem Jg{μ:Mem}{b:Nat}{T:TypeId}{p q:PV}:(μ.set b (some (.cells T (dx [p] 0 [q])))) b=some (.cells T [q]):=by simp[dx]
theorem JH{μ:Mem}{b:Nat}{T:TypeId}{p q:PV}:ay (μ.set b (some (.cells T (dx [p] 0 [q])))) b 0 1=some [q]:=kM Jg
@[reducible] def WD(x:Int×Int):PV:=.az [pI x.1,pI x.2]
theorem II{l:List cT}{body:(Int->Mem->Prop)->Int->Mem->Prop}{u:Mem}{A:Mem->Prop}(hl:l.length<=1000000)(h0:A u)
  (fE:∀(k:Nat) (hk:k<l.length) (u:Mem) (next:Int->Mem->Prop),A u->(iR l[k]=true->∀u',A u'->next (wrap .i64 ((k:Int)+1)) u')->(iR l[k]=false->ib 0 l=some k)->body next (k:Int) u)
  (eZ:∀(u:Mem) (next:Int->Mem->Prop),A u->ib 0 l=none->body next (l.length:Int) u):ak body 0 u:=by
 refine ak.each (n:=l.length) (by omega) (λk u=>A u/\ib 0 (l.take k)=none) ⟨h0,rfl⟩ ?_ ?_
 ·rintro k u next hk ⟨hA,hf⟩ av
  exact fE k hk u next hA (λha u' yI=>av u' ⟨yI,by rw[Im hk hf,ha];rfl⟩) (λha=>by have:=Ky hk hf ha;simpa using this)
 ·rintro u next ⟨hA,hf⟩
  rw[take_length]at hf;exact eZ u next hA hf
theorem OD(fc fa:Fl)(p:Prod)(hl:bX p.conds)(hs:ah p.conds<=1000000)(ha:p.bk.length<=1000000):Pure prog 78 [.agg [pS p.name,.list 7 fc (p.conds.map ae.pv),.list 19 fa (p.bk.map cT.pv)]] (WD (cU p)):=by
 refine au.of (rP.c ?_);refine(qE p.name).call ⟨_,rfl,ab.mk (λh1=>?_) (λh1=>(qF _ fc p.conds (le_refl _) hs).call ⟨_,rfl,ab.mk (λh2=>?_) (λh2=>ab.mk (λh3=>?_) (λh3=>ab.mk (λh4=>?_) (λh4=>ab.mk (λh5=>?_) (λh5=>?_))))⟩)⟩
 ·simp[cU,nb h1,wk,bU,yW]
 all_goals have e1:iX p.name=true:=nt h1
 ·have:ah p.conds<1:=by have:=of_decide_eq_true h2;omega
  simp[cU,e1,this,wk,bU,yW]
 ·have:16<ah p.conds:=by simp at h3;omega
  simp[cU,e1,this,wk,bU,yW]
 ·have:p.bk.length<1:=by have:=of_decide_eq_true h4;simp only[length_map]at this;omega
  simp[cU,e1,this,wk,bU,yW]
 ·have:16<p.bk.length:=by simp at h5;omega
  simp[cU,e1,this,wk,bU,yW]
 ·have e2:¬ah p.conds<1:=by have:=of_decide_eq_false h2;omega
  have e3:¬16<ah p.conds:=by simp at h3;omega
  have e4:¬p.bk.length<1:=by have:=of_decide_eq_false h4;simp only[length_map]at this;omega
  have e5:¬16<p.bk.length:=by simp at h5;omega
  refine(OE _ fc p.conds 0 0 (le_refl _) hl (by omega) (by omega)).call ?_;have Tw:cU p=lu p:=by simp[cU,e1,e2,e3,e4,e5]
  cases hf:cR (cX p.conds 0 0)with
  |some r=>
   obtain⟨x,e⟩:=r;have aQ:=rp hf;simp only[tM,hf];refine⟨_,_,rfl,ab.t (by simpa using aQ) ?_⟩;rw[Tw,GZ hf];rfl
  |none=>
   simp only[tM,hf];refine⟨_,_,rfl,ab.f rfl ?_⟩;refine II (l:=p.bk) (A:=λ_=>True) ha trivial (λk hk u next _ hy cQ=>?_) (λu next _ hfa=>?_)
   ·refine ab.t (by simpa using hk) ⟨by omega,_,aC hk,_,_,_,_,_,_,_,_,_,_,_,_,_,_,_,_,_,_,_,rfl,(VN p.bk[k]).call ⟨_,rfl,ab.mk (λa=>?_) (λa=>hy (nt a) _ trivial)⟩⟩;rw[Tw,G_ hf (cQ (nb a)),aD (by omega) (by omega)];simp[wk,bU,yW]
   ·refine ab.f (by simp) ?_;rw[Tw,Dg hf hfa];rfl
theorem ZT(fc fa:Fl)(p:Prod)(hl:bX p.conds)(hs:ah p.conds<=1000000)(ha:p.bk.length<=1000000):Pure prog 128 [.agg [pS p.name,.list 7 fc (p.conds.map ae.pv),.list 19 fa (p.bk.map cT.pv)]] (WD (cU p)):=by
 refine au.of (CO.c ?_);refine(Eb p.name).call ⟨_,rfl,ab.mk (λh1=>?_) (λh1=>?_)⟩
 ·simp[cU,nb h1,wk,bU,yW]
 have e1:iX p.name=true:=nt h1;intro b4 Gz;refine⟨_,_,Mem.ao _ _ _,by simp,?_⟩;rw[Mem.set_set];have oA:=ns p.conds 0 0;refine aa.mono (MC (.func 189) [] [pP b4 0] trivial (λk μ=>μ b4=some (.cells 3 [pI (k:Nat)])/\k<=16) (λμ=>μ b4=some (.cells 3 [pI 17])/\16<ah p.conds) _ fc p.conds 0 0 0 _ (le_refl _) (by omega) (by omega) ⟨by simp[Mem.ao,dx],by omega⟩ (λk x μ hx hI=>?_)) ?_
 ·rw[zero_add]at hI |-;have Fe:=sY _ _ _ _ _ hx;have hk:k<ah p.conds:=by rw[<- oA];exact(List.getElem?_eq_some_iff.1 hx).1
  show aa _ _ _ _ _;rw[ae.cH];refine zh.c ?_;refine⟨_,_,hI.1,by simp,_,JH,?_⟩;rw[Fe,zero_add,aD (by omega) (by omega)];by_cases h16:k+1<=16
  ·exact .inl ⟨by simp;omega,by rw[Jg];rfl,h16⟩
  ·have:k=16:=by omega
   subst this;exact .inr ⟨by simp,by rw[Jg];rfl,hk⟩
 rintro v μ1 hv;have agI:∃(x:Int) (q:Bool) (m:Nat),v=.az [pI x,pB q]/\μ1 b4=some (.cells 3 [pI (m:Nat)])/\(m<=16->m=ah p.conds)/\(16<m->16<ah p.conds):=by
  rcases hv with⟨rfl,h1,h2⟩|⟨x,rfl,h1,h2⟩
  ·rw[zero_add]at h1 h2;exact⟨_,_,_,rfl,h1,λ_=>rfl,λh=>by omega⟩
  ·exact⟨_,_,17,rfl,h1,λh=>by omega,λ_=>h2⟩
 obtain⟨x,q,m,rfl,yC,sq,W_⟩:=agI;refine⟨_,_,rfl,_,kM yC,ab.mk (λh2=>?_) (λh2=>⟨_,kM yC,ab.mk (λh3=>?_) (λh3=>ab.mk (λh4=>?_) (λh4=>ab.mk (λh5=>?_) (λh5=>?_)))⟩)⟩
 ·have:ah p.conds<1:=by have:=of_decide_eq_true h2;have:=sq (by omega);omega
  simp[cU,e1,this,wk,bU,yW]
 ·have:16<ah p.conds:=W_ (by simp at h3;omega);simp[cU,e1,this,wk,bU,yW]
 ·have:p.bk.length<1:=by have:=of_decide_eq_true h4;simp only[length_map]at this;omega
  simp[cU,e1,this,wk,bU,yW]
 ·have:16<p.bk.length:=by simp at h5;omega
  simp[cU,e1,this,wk,bU,yW]
 have yB:m=ah p.conds:=sq (by simp at h3;omega);subst yB;have e2:¬ah p.conds<1:=by have:=of_decide_eq_false h2;omega
 have e3:¬16<ah p.conds:=by simp at h3;omega
 have e4:¬p.bk.length<1:=by have:=of_decide_eq_false h4;simp only[length_map]at this;omega
 have e5:¬16<p.bk.length:=by simp at h5;omega
 have Tw:cU p=lu p:=by simp[cU,e1,e2,e3,e4,e5]
 intro b5 TA b6 Fo;have n54:b5≠b4:=by rintro rfl;rw[yC]at TA;cases TA
 have YG:b6≠b5:=by rintro rfl;rw[Mem.ao]at Fo;cases Fo
 have n64:b6≠b4:=by rintro rfl;rw[Mem.ax _ _ (Ne.symm n54)]at Fo;rw[yC]at Fo;cases Fo
 refine⟨_,_,by rw[Mem.ax _ _ (Ne.symm YG)];exact Mem.ao _ _ _,by simp,?_⟩;refine⟨_,_,by rw[Mem.ax _ _ YG];exact Mem.ao _ _ _,by simp,?_⟩
 refine aa.mono (MC (.func 190) [] [pP b6 0,pP b5 0] trivial (λk μ=>μ b4=some (.cells 3 [pI (ah p.conds:Nat)])/\μ b5=some (.cells 3 [pI (-1)])/\μ b6=some (.cells 36 [pI 0])/\cR ((cX p.conds 0 0).take k)=none)
  (λμ=>∃a e,μ b5=some (.cells 3 [pI (a:Nat)])/\μ b6=some (.cells 36 [pI e])/\cR (cX p.conds 0 0)=some (a,e)) _ fc p.conds 0 0 0 _ (le_refl _) (by omega) (by omega) ?_ (λk x μ hx hI=>?_)) ?_
 ·refine⟨?_,?_,by simp[dx],rfl⟩
  ·rw[Mem.ax _ _ (Ne.symm n64),Mem.ax _ _ (Ne.symm n54),Mem.ax _ _ (Ne.symm n64),Mem.ax _ _ (Ne.symm n54)];exact yC
  ·rw[Mem.ax _ _ (Ne.symm YG),Mem.ao];simp[dx]
 ·rw[zero_add]at hI |-;obtain⟨i4,i5,i6,Vo⟩:=hI;have hlx:=tr _ _ _ x hl (List.mem_of_getElem? hx);have gf:=Ik hx Vo;show aa _ _ _ _ _;have hc:=aaj x.2.2 x.2.1 hlx;rw[ae.cH]at hc |-;refine zg.c (hc.call ⟨_,rfl,_,_,i6,by simp,_,JH,ab.mk (λh=>?_) (λh=>?_)⟩)
  ·have aQ:(bw x.2.2 x.2.1 == 0)=false:=by simpa using h
   refine⟨_,_,by rw[Mem.ax _ _ (Ne.symm YG)];exact i5,by simp,_,kM (by rw[Mem.ax _ _ YG];exact Jg),.inr ⟨by rw[aQ],x.1,bw x.2.2 x.2.1,?_,?_,?_⟩⟩
   ·exact Jg
   ·rw[Mem.ax _ _ YG];exact Jg
   ·rw[aQ]at gf;exact Il gf
  ·have he:(bw x.2.2 x.2.1 == 0)=true:=by simpa using h
   have Po:bw x.2.2 x.2.1=0:=by simpa using he
   refine⟨_,JH,.inl ⟨by rw[he],?_,?_,?_,?_⟩⟩
   ·rw[Mem.ax _ _ (Ne.symm n64)];exact i4
   ·rw[Mem.ax _ _ (Ne.symm YG)];exact i5
   ·rw[Jg,Po]
   ·rw[gf,he];rfl
 rintro v μ2 hv;rcases hv with⟨rfl,i4,i5,i6,Vo⟩|⟨x,rfl,a,e,i5,i6,Xh⟩
 ·rw[zero_add,<- oA,take_length]at Vo;refine⟨_,_,rfl,_,kM i6,ab.f rfl ?_⟩;refine II (l:=p.bk) (A:=λμ=>μ b4=some (.cells 3 [pI (ah p.conds:Nat)])) ha i4 (λk hk u next hA hy cQ=>?_) (λu next _ hf=>?_)
  ·refine ab.t (by simpa using hk) ⟨by omega,_,aC hk,_,_,_,_,_,_,_,_,_,_,_,_,_,_,_,_,_,_,_,rfl,(aij p.bk[k]).call ⟨_,rfl,ab.mk (λa=>⟨_,kM hA,?_⟩) (λa=>hy (nt a) _ hA)⟩⟩;rw[Tw,G_ Vo (cQ (nb a)),aD (by omega) (by omega)];simp[wk,bU,yW]
  ·refine ab.f (by simp) ?_;rw[Tw,Dg Vo hf];rfl
 ·have aQ:=rp Xh;refine⟨_,_,rfl,_,kM i6,ab.t (by simpa using aQ) ⟨_,kM i5,_,kM i6,?_⟩⟩;rw[Tw,GZ Xh];rfl
end Go.Proofs.YtbodiiomcfgokaaGreat
