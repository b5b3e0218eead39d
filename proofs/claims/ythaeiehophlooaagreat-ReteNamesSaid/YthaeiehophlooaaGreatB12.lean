import Derived.Test.YthaeiehophlooaaGreatB11
open Go.IntKind (wrap)
open List (Pairwise.nil append_assoc append_inj' getElem?_eq_getElem getElem_map getElem_mem getElem_take length_append length_cons length_map length_take map_append map_congr_left map_cons map_id map_take mem_append mem_cons mem_filter mem_iff_getElem mem_map mem_map_of_mem mem_of_mem_take mem_singleton nil_prefix nodup_append nodup_cons pairwise_append prefix_append prefix_refl sum_cons take_add_one take_length take_prefix take_take take_zero)
open Nat (beq le_trans min_eq_left)
set_option linter.all false
namespace Go.Proofs.YthaeiehophlooaaGreat
open Go.Proofs.Tryz Go.aO Go.RowKit
def dJ(B:Path->Nat)(l:Path):List Nat:=(List.range l.length).map λi=>B (l.take (i+1))
theorem rp(B:Path->Nat)(l:Path):(dJ B l).length=l.length:=by simp[dJ]
theorem Jt(B:Path->Nat)(l:Path){k:Nat}(hk:k<l.length):((dJ B l).map λb=>[pP b 0])[Int.toNat (k:Int)]?=some [pP (B (l.take (k+1))) 0]:=by
 have h:k<(dJ B l).length:=by rw[rp];exact hk
 rw[Int.toNat_natCast,List.getElem?_map,getElem?_eq_getElem h];simp[dJ]
theorem Of(b:Nat):(beq b b&&beq 0 0)=true:=by simp
theorem Vh{a b:Nat}(h:a≠b):(beq a b&&beq 0 0)=false:=by
 cases hb:beq a b with
 |false=>rfl
 |true=>exact absurd (Nat.eq_of_beq_eq_true hb) h
section
variable {n:Nat} {x:NC} {es:List aj} {ids:pQ} {Bd:Int} {tk:Path->List bR} {ct:Path->List Nat} {fr:Path->List bR} {mn:Path->List Nat}
theorem ca.aag{T:Tree}(h:rV T){q:Path}{c:ae}(Zm:q++[c]∈T.D){L:List aX}{μ:Mem}(hO:Ow (ca T tk ct fr mn::L) μ){j:Nat}(hj:j<(T.K q).length)(ej:(T.K q)[j]=c){K:Mem->Prop}
  (hK:∀F μ',Ow (ca (T.del q c) tk ct fr mn::Pt (T.B (q++[c])) 126 (gJ T tk ct fr mn (q++[c]) F).pv::L) μ'->K μ'):
  iq (T.S q).1/\(T.K q).length<=(T.S q).2/\gP 1 8 110 (yZ (T.S q).1 0 (T.S q).2 1) j (T.S q).2 (.raw (.slice (yZ (T.S q).1 (j+1) (T.S q).2 1) ((T.K q).length-(j+1)) ((T.S q).2-(j+1)))) μ (λs sn sc u=>stM (T.B q) 7 [.raw (.slice s sn sc)] u K):=by
 have hq:=h.up _ _ Zm;have GB:=h.kl hq;have Ky:=h.KJ;obtain⟨A,B,F,e,h1⟩:=ca.out Zm hO;have aZ:q≠q++[c]:=λe=>by have:=congrArg List.length e;simp at this
 have TZ:q∈A++B:=by
  rw[<- Ec h e];exact mem_filter.2 ⟨hq,by simpa using aZ⟩
 have h2:Ow (ca ⟨A++B,T.B,T.M,T.E,T.K,T.S⟩ tk ct fr mn::Pt (T.B (q++[c])) 126 (gJ T tk ct fr mn (q++[c]) F).pv::L) μ:=by
  have h3:Ow (Ow ((A++B).map (dW T tk ct fr mn))::Pt (T.B (q++[c])) 126 (gJ T tk ct fr mn (q++[c]) F).pv::L) μ:=Ow.ord [1,0] h1.swap.drop |> λh=>h;exact h3
 obtain⟨A2,B2,F2,e2,h3⟩:=ca.out (T:=⟨A++B,T.B,T.M,T.E,T.K,T.S⟩) TZ h2;have h4:Ow (cA 110 1 (.raw (.slice (T.S q).1 (T.K q).length (T.S q).2)) ((T.K q).map λc=>[pP (T.B (q++[c])) 0])::Pt (T.B q) 126 (gJ T tk ct fr mn q F2).pv::Ow ((A2++B2).map (dW T tk ct fr mn))::Pt (T.B (q++[c])) 126 (gJ T tk ct fr mn (q++[c]) F).pv::L) μ:=h3.swap;have key:∀(μ':Mem),Ow (cA 110 1 (.raw (.slice (T.S q).1 ((T.K q).length-1) (T.S q).2)) (((T.K q).eraseIdx j).map λx=>[pP (T.B (q++[x])) 0])::Pt (T.B q) 126 (gJ T tk ct fr mn q F2).pv::Ow ((A2++B2).map (dW T tk ct fr mn))::Pt (T.B (q++[c])) 126 (gJ T tk ct fr mn (q++[c]) F).pv::L) μ'->stM (T.B q) 7 [.raw (.slice (T.S q).1 ((T.K q).length-1) (T.S q).2)] μ' K:=by
  intro μ' h5;refine h5.st 1 rfl (by simp) λμ2 h6=>hK F μ2 ?_;have hD:(T.del q c).D=A2++q::B2:=by
   show T.D.filter _=_;rw[Ec h e];exact e2
  have hn2:(A2++q::B2).Nodup:=by rw[<- hD];exact h.nodup.filter _
  have XH:(T.del q c).K q=(T.K q).eraseIdx j:=by
   show aF T.K q _ q=_;rw[cx,erase_filter hj (h.HL q hq) ej]
  have hlen:((T.K q).eraseIdx j).length=(T.K q).length-1:=by rw[List.length_eraseIdx,if_pos hj]
  refine ca.in_ hD (F:=F2) ?_;have jm:(A2++B2).map (dW (T.del q c) tk ct fr mn)=(A2++B2).map (dW T tk ct fr mn):=map_congr_left λr hr=>by
   have RF:r≠q:=by
    rintro rfl;obtain⟨n1,n2,n3⟩:=nodup_append.1 hn2;rcases mem_append.1 hr with h|h
    ·exact n3 r h r (by simp) rfl
    ·exact(nodup_cons.1 n2).1 h
   exact ca.KN (T:=T) (T':=T.del q c) rfl rfl rfl (aT RF) rfl (λ_ _=>rfl) rfl rfl rfl rfl
  rw[jm];have lq:(gJ (T.del q c) tk ct fr mn q F2).pv=dy (gJ T tk ct fr mn q F2).pv 7 [.raw (.slice (T.S q).1 ((T.K q).length-1) (T.S q).2)]:=by
   unfold gJ lZ.pv;rw[XH,hlen];rfl
  have hV:Gz (T.del q c) q=cA 110 1 (.raw (.slice (T.S q).1 ((T.K q).length-1) (T.S q).2)) (((T.K q).eraseIdx j).map λc=>[pP (T.B (q++[c])) 0]):=by
   unfold Gz ij;rw[XH,hlen];rfl
  rw[lq,hV];exact h6.swap
 obtain⟨v1,v2,v3,v4⟩:=cA.cut h4 (λ_=>rfl) hj (by omega) (K:=λs sn sc u=>stM (T.B q) 7 [.raw (.slice s sn sc)] u K) key;exact⟨v1,v3,v4⟩
theorem Tf(l:Path)(sF:l.length<=1000){T:Tree}{ms:dj}(hC:jq Bd T es ms tk ct)(hlD:l∈T.D)(hN:TT T (λr=>r <+: l))(ac_:x.root=T.B [])(fl:Fl){L:List aX}{μ:Mem}(hO:Ow (ak n x es ms ids::ca T tk ct fr mn::L) μ){K:Kq}
  (hk:∀T' cr μ',jq Bd T' es cr tk ct->TT T' (λ_=>False)->T'.B=T.B->T'.E=T.E->(∀r∈T'.D,r∈T.D)->(∀r∈T.D,0<T.E r->r∈T'.D)->Ow (ak n x es cr ids::ca T' tk ct fr mn::L) μ'->K (.aA []) μ'):
  aa prog 69 [pP n 0,.list 1 fl ((dJ T.B l).map λb=>[pP b 0])] μ K:=by
 refine xY.c ?_;rw[show wrap .i64 (((((dJ T.B l).map λb=>[pP b 0]).length:Nat):Int)-1)=((l.length:Nat):Int)-1 from by rw[length_map,rp,aC (by omega) (by omega)]];refine ao.aeh l.length (λm u=>∃T' cr,(jq Bd T' es cr tk ct/\l.take m∈T'.D/\TT T' (λr=>r <+: l.take m)/\T'.B=T.B/\T'.E=T.E/\(∀r∈T'.D,r∈T.D)/\(∀r∈T.D,0<T.E r->r∈T'.D))/\Ow (ak n x es cr ids::ca T' tk ct fr mn::L) u) ⟨T,ms,⟨hC,by rw[take_length];exact hlD,by rw[take_length];exact hN,rfl,rfl,λ_ h=>h,λ_ h _=>h⟩,hO⟩ ?_ ?_
 ·rintro k u next GB ⟨T',cr,⟨zJ,PD,ZS,hB,hE,jV,sG⟩,h2⟩ aw
  have ep:l.take (k+1)=l.take k++[l[k]]:=by rw[take_add_one,getElem?_eq_getElem GB];rfl
  generalize hq:l.take k=q at*
  generalize hc:l[k]=c at*
  rw[ep]at PD ZS;have vt:=zJ.tree.up _ _ PD;have dS:((dJ T.B l).map λb=>[pP b 0])[Int.toNat (k:Int)]?=some [pP (T'.B (q++[c])) 0]:=by rw[Jt T.B l GB,ep,hB]
  obtain⟨F,hF⟩:=ca.rd PD (Ow.swap h2);have done:(T'.K (q++[c])≠[]\/0<T'.E (q++[c]))->K (.aA []) u:=λhor=>by
   refine hk T' cr u zJ (λr hr Mq _=>?_) hB hE jV sG h2;by_cases fS:r <+: q++[c]
   ·by_cases e:r=q++[c]
    ·rw[e];exact hor
    ·left;obtain⟨s,hs⟩:=fS;cases s with
     |nil=>rw[List.append_nil]at hs;exact absurd hs e
     |cons d s=>
      have:r++[d]∈T'.D:=zJ.tree.QK PD ⟨s,by rw[<- hs];simp⟩;have:=(zJ.tree.kids r hr d).2 this;intro e0;rw[e0]at this;cases this
   ·exact ZS r hr Mq fS
  refine ab.t (by simp) ⟨by omega,_,dS,_,rfl,?_⟩;dsimp only[nP,nn,aU];refine⟨_,_,_,aI hF (by simp),ab.mk (λh=>done (.inl λe=>?_)) (λHY=>⟨_,aI hF (by simp),ab.mk (λh=>done (.inr ?_)) (λPJ=>?_)⟩)⟩
  ·have h9:0<(T'.K (q++[c])).length:=by simpa using h
   rw[e]at h9;simp at h9
  ·dsimp only[gJ]at h;simpa using h
  ·have VG:T'.K (q++[c])=[]:=by
    dsimp only[gJ]at HY;have:(T'.K (q++[c])).length=0:=by simpa using HY
    exact List.eq_nil_of_length_eq_zero this
   have ame:T'.E (q++[c])=0:=by
    dsimp only[gJ]at PJ;have:¬(0:Int)<((T'.E (q++[c]):Nat):Int):=by simpa using PJ
    omega
   refine⟨_,aI (ak.zb (x:=x) (es:=es) (ms:=cr) (ids:=ids) h2 (by simp)) (by simp),?_⟩;refine⟨λs u'=>s=some ⟨T'.B q,0,none⟩/\u'=u,ab.mk (λh=>?_) (λh=>⟨?_,rfl⟩),?_⟩
   ·have jY:0<k:=by simpa using h
    obtain⟨k',rfl⟩:∃k',k=k'+1:=⟨k-1,by omega⟩;have hw:wrap .i64 (((k'+1:Nat):Int)-1)=(k':Int):=by rw[aC (by omega) (by omega)];omega
    rw[hw];refine⟨by omega,_,Jt T.B l (by omega),_,rfl,?_,rfl⟩;rw[hq,hB]
   ·have jY:k=0:=by
     have:¬0<k:=by simpa using h
     omega
    subst jY;have:q=[]:=by rw[<- hq];rfl
    show some (⟨x.root,0,none⟩:Addr)=_;rw[this,hB,ac_]
   ·rintro s u' ⟨rfl,rfl⟩;refine⟨λ_ u2=>∃F,Ow (ak n x es cr ids::Pt (T'.B (q++[c])) 126 (gJ T' tk ct fr mn (q++[c]) F).pv::ca (T'.del q c) tk ct fr mn::L) u2,?_,?_⟩
    ·dsimp only[nP,nn,aU];obtain⟨Fq,hFq⟩:=ca.rd vt (Ow.swap h2);have hkk:=zJ.tree.kl vt;have Ky:=zJ.tree.KJ;refine⟨_,_,_,aI hFq (by simp),?_⟩;dsimp only[gJ];refine ao.each (n:=(T'.K q).length) (by omega) (λj u2=>u2=u'/\c∉(T'.K q).take j) ⟨rfl,by simp⟩ ?_ ?_
     ·rintro j u2 Hz hj ⟨rfl,dc⟩ oJ;obtain⟨b,hb,eR⟩:=ca.kid vt (Ow.swap h2) hj;have tL:=zJ.tree.Rv vt hj;obtain⟨F2,Sr⟩:=ca.rd tL (Ow.swap h2);rw[hb];refine ab.t (by simpa using hj) ⟨by omega,by simpa using hj,_,by simpa using eR,?_⟩;refine⟨⟨_,_,Sr,by simp⟩,⟨_,_,hF,by simp⟩,?_⟩;dsimp only;by_cases ed:(T'.K q)[j]=c
      ·rw[ed,Of];refine ab.t rfl ?_;obtain⟨v1,v2,v3⟩:=ca.aag zJ.tree PD (Ow.swap h2) hj ed (K:=λu3=>∃F,Ow (ak n x es cr ids::Pt (T'.B (q++[c])) 126 (gJ T' tk ct fr mn (q++[c]) F).pv::ca (T'.del q c) tk ct fr mn::L) u3) (λF μ' h=>⟨F,Ow.ord [2,1,0] h⟩);have hw:wrap .i64 ((j:Int)+1)=((j+1:Nat):Int):=by rw[aC (by omega) (by omega)];omega
       refine⟨_,_,_,aI hFq (by simp),?_⟩;dsimp only[gJ];refine⟨v1,by omega,by omega,by omega,by omega,_,_,_,aI hFq (by simp),?_⟩;dsimp only[gJ];rw[hw];refine⟨v1,by omega,by omega,by omega,by omega,?_⟩;simp only[Int.toNat_natCast,Int.toNat_zero,Nat.sub_zero];exact v3
      ·rw[Vh λe=>ed ?_]
       ·refine ab.f rfl (oJ _ ⟨rfl,λhm=>?_⟩);rw[take_add_one,getElem?_eq_getElem hj,mem_append]at hm;rcases hm with hm|hm
        ·exact dc hm
        ·simp only[Option.toList_some,mem_singleton]at hm;exact ed hm.symm
       ·have:=ca.inj tL PD (Ow.swap h2) e;simpa using this
     ·rintro u2 Hz ⟨rfl,dc⟩;rw[take_length]at dc;exact absurd ((zJ.tree.kids q vt c).2 PD) dc
    ·rintro _ u2 ⟨F2,h3⟩;have oK:=zJ.tree.ml q c PD;have fH:=(zJ.tree.Pw PD).2;refine MS (gJ T' tk ct fr mn (q++[c]) F2) (l:=(T'.del q c).D.flatMap T'.M) (zJ.use.perm (SH zJ.tree PD)) (by show(T'.M (q++[c])).length<=1000;omega) h3 λJj GA hK2 u3 h4=>⟨rfl,?_⟩;rw[aC (by omega) (by omega)];refine aw u3 ⟨T'.del q c,Jj,⟨zJ.del PD VG GA hK2,mem_filter.2 ⟨vt,?_⟩,λr hr Mq hW=>?_,hB,hE,λr hr=>jV r (mem_filter.1 hr).1,λr hr he=>mem_filter.2 ⟨sG r hr he,?_⟩⟩,?_⟩
     ·simp
     ·obtain⟨PC,DR⟩:=mem_filter.1 hr;have DR:r≠q++[c]:=by simpa using DR
      have RF:r≠q:=by rintro rfl;exact hW (prefix_refl _)
      show aF T'.K q _ r≠[]\/_;rw[aT RF];refine ZS r PC Mq λfS=>?_;rcases List.prefix_concat_iff.1 fS with h|h
      ·exact DR h
      ·exact hW h
     ·simp only[decide_eq_true_eq];rintro rfl;rw[<- hE]at he;omega
     ·exact h4.tail λ_ h=>h.drop
 ·rintro u next ⟨T',cr,⟨zJ,PD,ZS,hB,hE,jV,sG⟩,h2⟩
  refine ab.f (by simp) (hk T' cr u zJ (λr hr Mq _=>ZS r hr Mq λhp=>Mq ?_) hB hE jV sG h2);rw[take_zero]at hp;exact List.prefix_nil.1 hp
end
open K6
theorem Am{p:Prod}(h:(cJ p).2=0):∀x∈cQ p.conds 0 0,bn x.2.2 x.2.1=0:=by
 unfold cJ at h;cases hw:eP p.name with
 |false=>rw[hw]at h;simp at h
 |true=>
  rw[hw]at h;simp only[Bool.not_true,cond_false]at h;cases hb:(decide (ah p.conds<1)||(decide (16<ah p.conds)||(decide (p.bh.length<1)||decide (16<p.bh.length))))with
  |true=>rw[hb]at h;simp at h
  |false=>
   rw[hb]at h;simp only[cond_false]at h;refine qM ?_;unfold jt at h;split at h
   ·rename_i a e he;exact absurd h (nR he)
   ·assumption
theorem SM{c:ae}{d:Int}(h:bn c d=0)(hk:c.kind=1\/c.kind=2):c.id≠⟨#[]⟩:=by
 unfold bn at h;have h3:(c.kind == 3)=false:=by rcases hk with e|e<;>rw[e]<;>rfl
 have lS:((c.kind == 1)||(c.kind == 2))=true:=by rcases hk with e|e<;>rw[e]<;>rfl
 rw[h3,lS]at h;simp only[cond_true,cond_false]at h;cases hb:(decide (0<c.conds.length)||(!eP c.id||decide (c.attr.length=0)))with
 |true=>rw[hb]at h;simp at h
 |false=>
  simp only[Bool.or_eq_false_iff,Bool.not_eq_false']at hb;exact Eu hb.2.1
mutual
theorem QX:∀(c:ae) (a d:Nat),cU c->(∀x∈f_ c a d,bn x.2.2 x.2.1=0)->tp c
 | .mk k g i at_ v ac cs,a,d,hl,h=>by
   have h0:=h (a,d,.mk k g i at_ v ac cs) (by simp[f_])
   exact⟨hl,λhk=>SM h0 hk,AD cs (a+1) (d+1) ((bF _).1 hl).2.2.2.2.2 λx hx=>h x (by simp[f_,hx])⟩
theorem AD:∀(l:List ae) (a d:Nat),bW l->(∀x∈cQ l a d,bn x.2.2 x.2.1=0)->tn l
 |[],_,_,_,_=>trivial
 |c::cs,a,d,hl,h=>⟨QX c a d hl.1 λx hx=>h x (by simp[cQ,hx]),AD cs (a+aN c) d hl.2 λx hx=>h x (by simp[cQ,hx])⟩
end
structure rX(p:Prod):Prop where
 chk:(bQ p).2.1=0
 AW:bW p.conds
theorem rX.facts{p:Prod}(h:rX p):tn p.conds/\Pv p.conds/\1<=ah p.conds/\ah p.conds<=16/\p.bh.length<=16/\p.conds≠[]/\p.conds.length<=16:=by
 have h1:=(xG h.chk).1;obtain⟨s1,s2,_,s3,s4⟩:=wN h1;have:=c_ p.conds;exact⟨AD _ 0 0 h.AW (Am h1),s4,s1,s2,s3,λe=>by rw[e]at s1;simp[ah]at s1,by omega⟩
def jQ(q:Prod):ByteArray:=q.name
def iP(B:Path->Nat)(q:Prod):RP.El:=(q.name,⟨q,dJ B q.conds⟩)
structure wE(x:NC)(T:Tree)(es:List aj)(ms:dj)(ids:pQ)(tk:Path->List bR)(ct:Path->List Nat)(ps:List Prod)(w:Nat)(W:Path->Prop):Prop where
 core:jq x.T T es ms tk ct
 HA:TT T W
 ids:ji es ids
 root:x.root=T.B []
 tb:1<=x.T/\x.T<=1024
 mb:1<=x.M/\x.M<=1024
 Nn:bY bE jQ ps
 Ji:∀q∈ps,rX q
 pD:∀q∈ps,q.conds∈T.D
 ends:∀p∈T.D,T.E p=(ps.filter λq=>decide (q.conds=p)).length
 tags:∀e∈es,1<=e.tag/\e.tag<9223372036854775808
 LS:ps.length<=w
 dl:T.D.length<=1+16*w
def cW(es:List aj)(ps:List Prod):Nat:=(ps.map λq=>(az es q.conds).length).sum
@[reducible] def gw(n:Nat)(x:NC)(es:List aj)(ms:dj)(ids:pQ)(T:Tree)(tk:Path->List bR)(ct:Path->List Nat)(fr:Path->List bR)(mn:Path->List Nat)(ps:List Prod)(L:List aX):List aX:=
 ak n x es ms ids::ca T tk ct fr mn::RP.cq x.pr (ps.map (iP T.B))::RT.At x.el es::L
def ko(n:Nat)(x:NC)(es:List aj)(ps:List Prod)(w:Nat):aX:=λμ=>∃T ms ids tk ct fr mn,(wE x T es ms ids tk ct ps w (λ_=>False)/\((cW es ps:Nat):Int)<=x.M)/\Ow (gw n x es ms ids T tk ct fr mn ps []) μ
theorem ko.open_{n:Nat}{x:NC}{es:List aj}{ps:List Prod}{w:Nat}{L:List aX}{μ:Mem}(h:Ow (ko n x es ps w::L) μ):∃T ms ids tk ct fr mn,(wE x T es ms ids tk ct ps w (λ_=>False)/\((cW es ps:Nat):Int)<=x.M)/\Ow (gw n x es ms ids T tk ct fr mn ps L) μ:=by
 obtain⟨T,h⟩:=Ow.ex h;obtain⟨ms,h⟩:=Ow.ex h;obtain⟨ids,h⟩:=Ow.ex h;obtain⟨tk,h⟩:=Ow.ex h;obtain⟨ct,h⟩:=Ow.ex h;obtain⟨fr,h⟩:=Ow.ex h;obtain⟨mn,h⟩:=Ow.ex h;obtain⟨hp,h⟩:=Ow.and h;exact⟨T,ms,ids,tk,ct,fr,mn,hp,h.nest⟩
theorem ko.shut{n:Nat}{x:NC}{es:List aj}{ps:List Prod}{w:Nat}{T:Tree}{ms:dj}{ids:pQ}{tk:Path->List bR}{ct:Path->List Nat}{fr:Path->List bR}{mn:Path->List Nat}{L:List aX}{μ:Mem}(hp:wE x T es ms ids tk ct ps w (λ_=>False))(hs:((cW es ps:Nat):Int)<=x.M)(h:Ow (gw n x es ms ids T tk ct fr mn ps L) μ):Ow (ko n x es ps w::L) μ:=
 (Ow.pack (L1:=gw n x es ms ids T tk ct fr mn ps []) h).imp λ_ hν=>⟨T,ms,ids,tk,ct,fr,mn,⟨hp,hs⟩,hν⟩
section
variable {n:Nat} {x:NC} {es:List aj} {ms:dj} {ids:pQ} {T:Tree} {tk:Path->List bR} {ct:Path->List Nat} {fr:Path->List bR} {mn:Path->List Nat}
theorem Ev(B:Path->Nat){l:Path}(hl:l≠[])(tK:l.length<=1000):((dJ B l).map λb=>[pP b 0])[Int.toNat (wrap .i64 (((((dJ B l).map λb=>[pP b 0]).length:Nat):Int)-1))]?=some [pP (B l) 0]/\0<=wrap .i64 (((((dJ B l).map λb=>[pP b 0]).length:Nat):Int)-1):=by
 have hp:0<l.length:=List.length_pos_iff.2 hl;have e:wrap .i64 (((((dJ B l).map λb=>[pP b 0]).length:Nat):Int)-1)=((l.length-1:Nat):Int):=by
  rw[length_map,rp,aC (by omega) (by omega)];omega
 rw[e,Jt B l (by omega)];refine⟨?_,by omega⟩;rw[show l.length-1+1=l.length from by omega,take_length]
theorem JC{α:Type}{f:α->Nat}{b:Nat}:∀{l:List α},(∀x∈l,f x<=b)->(l.map f).sum<=b*l.length
 |[],_=>by simp
 |x::l,h=>by
  have h1:=h x (by simp)
  have h2:=JC (l:=l) λy hy=>h y (by simp[hy]);simp only[map_cons,sum_cons,length_cons];rw[Nat.mul_add];omega
theorem aiD{ps:List Prod}(hlen:ps.length<=10000)(hD:∀q∈ps,q.conds∈T.D/\q.conds≠[]/\q.conds.length<=1000)(hle:∀q∈ps,(tk q.conds).length<=1025){L:List aX}{μ:Mem}(hO:Ow (ak n x es ms ids::ca T tk ct fr mn::RP.cq x.pr (ps.map (iP T.B))::L) μ){K:Kq}
  (hk:∀μ',Ow (ak n x es ms ids::ca T tk ct fr mn::RP.cq x.pr (ps.map (iP T.B))::L) μ'->K (pI (((ps.map λq=>(tk q.conds).length).sum:Nat):Int)) μ'):aa prog 70 [pP n 0] μ K:=by
 refine BX.c λb3 DU=>?_;refine(hO.new 3 [pI 0] DU).st 0 rfl (by simp) λu h=>?_;refine⟨_,aI (ak.zb (x:=x) (es:=es) (ms:=ms) (ids:=ids) h (by simp)) (by simp),(RP.vO x.pr).call ⟨_,_,_,rfl,?_⟩⟩;have oK:((ps.map (iP T.B)).map λy=>[RP.cX y.1,RP.g_ y.2]).length=ps.length:=by simp
 refine bu.own (RP.gB x.pr (ps.map (iP T.B)) (by simp;omega)) (Ow.at 3 rfl h)
  (λk u=>Ow (ak n x es ms ids::ca T tk ct fr mn::RP.cq x.pr (ps.map (iP T.B))::Pt b3 3 [pI ((((ps.take k).map λq=>(tk q.conds).length).sum:Nat):Int)]::L) u) (λ_ _=>False) (λk=>eJ.own _) (λ_ _ _ _ h=>h.elim) (λμ' h'=>?_) ?_ ?_ (λ_ _ h=>h.elim)
 ·have h2:Ow (RP.cq x.pr (ps.map (iP T.B))::Pt b3 3 [pI 0]::ak n x es ms ids::ca T tk ct fr mn::L) μ':=h';exact Ow.ord [2,2,0,0] h2
 ·rintro k eT u2 R h2 bX _;have cj:k<ps.length:=by simpa using eT
  have hm:=getElem_mem cj;obtain⟨d1,d2,d3⟩:=hD _ hm;obtain⟨F,hF⟩:=ca.rd d1 (Ow.swap h2);obtain⟨w1,w2⟩:=Ev T.B d2 d3;rw[getElem_map,getElem_map];refine⟨_,_,_,_,_,_,_,_,rfl,_,h2.rd 3 rfl (by simp),w2,_,w1,_,rfl,?_⟩;dsimp only[nP,nn,aU];refine⟨_,_,aI hF (by simp),?_⟩;refine h2.st 3 rfl (by simp) λu3 h3=>bX _ ?_;have hs:((ps.take (k+1)).map λq=>(tk q.conds).length).sum=((ps.take k).map λq=>(tk q.conds).length).sum+(tk ps[k].conds).length:=by
   rw[eV cj,List.sum_append];simp
  have h4:=hle _ hm;have h5:=JC (l:=ps.take k) (f:=λq=>(tk q.conds).length) (b:=1025) λq hq=>hle q (mem_of_mem_take hq);rw[length_take]at h5;have e:dy [pI ((((ps.take k).map λq=>(tk q.conds).length).sum:Nat):Int)] 0 [pI (wrap .i64 (((((ps.take k).map λq=>(tk q.conds).length).sum:Nat):Int)+((((tk ps[k].conds).map bR.pv).length:Nat):Int)))]=[pI ((((ps.take (k+1)).map λq=>(tk q.conds).length).sum:Nat):Int)]:=by
   rw[hs,length_map,aC (by omega) (by omega)];show[pI _]=_;congr 2
  rw[e]at h3;exact h3
 ·intro u2 h2;rw[oK,take_length]at h2;dsimp only[PK];exact⟨_,h2.rd 3 rfl (by simp),hk u2 (h2.tail λ_ h=>h.tail λ_ h=>h.tail λ_ h=>h.drop)⟩
end
theorem ao.XQ{α β γ:Type}{body:(α×β×Int->γ->Prop)->α×β×Int->γ->Prop}{x:α}{y:β}{u:γ}{n:Nat}(hn:n<9223372036854775808)(I:Nat->α->β->γ->Prop)(h0:I 0 x y u)
  (fT:∀(k:Nat) (x:α) (y:β) (u:γ) (next:α×β×Int->γ->Prop),k<n->I k x y u->(∀x' y' u',I (k+1) x' y' u'->next (x',y',wrap .i64 ((k:Int)+1)) u')->body next (x,y,(k:Int)) u) (fL:∀(x:α) (y:β) (u:γ) (next:α×β×Int->γ->Prop),I n x y u->body next (x,y,(n:Int)) u):ao body (x,y,0) u:=by
 refine⟨λm s u=>∃k:Nat,s.2.2=(k:Int)/\k<=n/\I k s.1 s.2.1 u/\m=n-k,⟨n-0,0,rfl,Nat.zero_le _,h0,rfl⟩,?_⟩;rintro _ ⟨x,y,z⟩ u ⟨k,hz,hk,hI,rfl⟩;have hz:z=(k:Int):=hz;subst hz;by_cases bG:k<n
 ·refine fT k x y u _ bG hI λx' y' u' dK=>?_;rw[aC (by omega) (by omega)];exact⟨n-(k+1),by omega,k+1,by show(k:Int)+1=((k+1:Nat):Int);omega,by omega,dK,rfl⟩
 ·have:k=n:=by omega
  subst this;exact fL x y u _ hI
def Tree.add(T:Tree)(q:Path)(c:ae)(xb:Nat)(aB:List Int)(s:Option Addr×Nat):Tree:=
 ⟨T.D++[q++[c]],aF T.B (q++[c]) xb,aF T.M (q++[c]) aB,aF T.E (q++[c]) 0,aF (aF T.K q (T.K q++[c])) (q++[c]) [],aF (aF T.S q s) (q++[c]) (none,0)⟩
section
variable {T:Tree} {q:Path} {c:ae} {xb:Nat} {aB:List Int} {s:Option Addr×Nat}
theorem rV.add(h:rV T)(hq:q∈T.D)(hn:q++[c]∉T.D)(hl:q.length<16)(hc:tp c)(hs:ah (q++[c])<=100)(hm:aB.length=aN c)(hf:T.D.length+1<=5000)(wD:∀j∈aB,-1<=j):rV (T.add q c xb aB s):=by
 have CG:∀r,r∈(T.add q c xb aB s).D↔r∈T.D\/r=q++[c]:=λr=>by unfold Tree.add;simp
 have aZ:∀r∈T.D,r≠q++[c]:=λr hr e=>hn (e▸hr);have hKo:∀r∈T.D,r≠q->(T.add q c xb aB s).K r=T.K r:=λr hr RF=>by
  show aF (aF T.K q _) (q++[c]) [] r=_;rw[aT (aZ r hr),aT RF]
 have XH:(T.add q c xb aB s).K q=T.K q++[c]:=by
  show aF (aF T.K q _) (q++[c]) [] q=_;rw[aT (aZ q hq),cx]
 have hKn:(T.add q c xb aB s).K (q++[c])=[]:=cx _ _ _;refine⟨?_,(CG _).2 (.inl h.root),λp hp d=>?_,λp hp=>?_,λp d hd=>?_,λp hp=>?_,λp hp=>?_,λp hp=>?_,λp d hd=>?_,?_,?_,λp hp=>?_⟩
 ·refine nodup_append.2 ⟨h.nodup,by simp,λa ha b hb e=>?_⟩;simp only[mem_singleton]at hb;subst e hb;exact hn ha
 ·rw[CG];rcases(CG p).1 hp with hp|rfl
  ·by_cases e:p=q
   ·subst e;rw[XH,mem_append,h.kids p hq d];simp only[mem_singleton];constructor
    ·rintro(h1|rfl)
     ·exact .inl h1
     ·exact .inr rfl
    ·rintro(h1|h1)
     ·exact .inl h1
     ·exact .inr (by simpa using h1)
   ·rw[hKo p hp e,h.kids p hp d];refine⟨.inl,λh1=>h1.resolve_right λe2=>e (append_inj' e2 rfl).1⟩
  ·rw[hKn];refine⟨λh1=>(by cases h1),?_⟩;rintro(h1|h1)
   ·exact absurd (h.up _ _ h1) hn
   ·have:=congrArg List.length h1;simp at this
 ·rcases(CG p).1 hp with hp|rfl
  ·by_cases e:p=q
   ·subst e;rw[XH];refine nodup_append.2 ⟨h.HL p hq,by simp,λa ha b hb e=>?_⟩;simp only[mem_singleton]at hb;subst e hb;exact hn ((h.kids _ hq _).1 ha)
   ·rw[hKo p hp e];exact h.HL p hp
  ·rw[hKn];exact List.nodup_nil
 ·rcases(CG _).1 hd with hd|hd
  ·exact(CG _).2 (.inl (h.up _ _ hd))
  ·obtain⟨rfl,_⟩:=append_inj' hd rfl;exact(CG _).2 (.inl hq)
 ·rcases(CG p).1 hp with hp|rfl
  ·exact h.len p hp
  ·simp;omega
 ·rcases(CG p).1 hp with hp|rfl
  ·exact h.YK p hp
  ·refine lH.2 λd hd=>?_;rcases mem_append.1 hd with hd|hd
   ·exact lH.1 (h.YK q hq) d hd
   ·simp only[mem_singleton]at hd;subst hd;exact hc
 ·rcases(CG p).1 hp with hp|rfl
  ·exact h.size p hp
  ·exact hs
 ·show(aF T.M (q++[c]) aB (p++[d])).length=_;rcases(CG _).1 hd with hd|hd
  ·rw[aT (aZ _ hd)];exact h.ml p d hd
  ·rw[hd,cx];obtain⟨_,e⟩:=append_inj' hd rfl;simp only[List.cons.injEq,and_true]at e;rw[e];exact hm
 ·show aF T.M (q++[c]) aB []=[];rw[aT (aZ _ h.root)];exact h.m0
 ·show(T.D++[q++[c]]).length<=5000;rw[length_append,List.length_singleton];exact hf
 ·show ∀j∈aF T.M (q++[c]) aB p,-1<=j;rcases(CG p).1 hp with hp|rfl
  ·rw[aT (aZ p hp)];exact h.mge p hp
  ·rw[cx];exact wD
theorem Sx{M:Path->List Int}{p:Path}{v:List Int}{D:List Path}(h:p∉D):D.flatMap (aF M p v)=D.flatMap M:=by
 induction D with
 |nil=>rfl
 |cons r D ih=>
  rw[List.flatMap_cons,List.flatMap_cons,ih λh'=>h (by simp[h']),aT λe=>h (by simp[e])]
theorem jq.add{B:Int}{es:List aj}{ms cr:dj}{tk:Path->List bR}{ct:Path->List Nat}(h:jq B T es ms tk ct)(hq:q∈T.D)(hn:q++[c]∉T.D)(hl:q.length<16)(hc:tp c)(hs:ah (q++[c])<=100)(hm:aB.length=aN c)(hf:T.D.length+1<=5000)(hu:fC es cr (aB++T.D.flatMap T.M))(hk:iG ms cr)(tM:kt cr aB 0 c)(hle:∀j,((dB es c (az es q) j:Nat):Int)<=B)(wD:∀j∈aB,-1<=j):
  jq B (T.add q c xb aB s) es cr (aF tk (q++[c]) (stepT es c (az es q))) (aF ct (q++[c]) (kK es c (az es q))):=by
 have CG:∀r,r∈(T.add q c xb aB s).D↔r∈T.D\/r=q++[c]:=λr=>by unfold Tree.add;simp
 have aZ:∀r∈T.D,r≠q++[c]:=λr hr e=>hn (e▸hr);have fT:∀{p:Path} {d:ae},p++[d]=q++[c]->p=q/\d=c:=λe=>by
  obtain⟨e1,e2⟩:=append_inj' e rfl;simp only[List.cons.injEq,and_true]at e2;exact⟨e1,e2⟩
 refine⟨h.tree.add hq hn hl hc hs hm hf wD,?_,λp d hd=>?_,⟨λp hp=>?_,λp d hd=>?_,λp d hd=>?_⟩⟩
 ·refine hu.perm ?_;show(aB++T.D.flatMap T.M).Perm ((T.D++[q++[c]]).flatMap (aF T.M (q++[c]) aB));rw[List.flatMap_append,Sx hn];simpa using List.perm_append_comm
 ·show kt cr (aF T.M (q++[c]) aB (p++[d])) 0 d;rcases(CG _).1 hd with hd|hd
  ·rw[aT (aZ _ hd)];exact Bs hk d 0 (h.fit p d hd)
  ·obtain⟨e1,e2⟩:=fT hd;rw[hd,cx,e2];exact tM
 ·rcases(CG p).1 hp with hp|rfl
  ·rw[aT (aZ p hp)];exact h.dO.tok p hp
  ·rw[cx,dk]
 ·rcases(CG _).1 hd with hd|hd
  ·rw[aT (aZ _ hd)];exact h.dO.cnt p d hd
  ·obtain⟨e1,e2⟩:=fT hd;rw[hd,cx,e1,e2]
 ·rcases(CG _).1 hd with hd|hd
  ·exact h.dO.le p d hd
  ·obtain⟨e1,e2⟩:=fT hd;rw[e1,e2];exact hle
def sI(c:ae)(f:Fl)(aB:List Int)(ft:Fl)(ts:List bR)(fk:Fl)(cn:List Nat):lZ:=⟨c,.sh,.sh,.sh,none,0,0,f,aB,ft,ts,fk,cn,0,.nil,[],.nil,[]⟩
theorem ca.aaO{tk:Path->List bR}{ct:Path->List Nat}{fr:Path->List bR}{mn:Path->List Nat}(h:rV T)(hq:q∈T.D)(hn:q++[c]∉T.D){f ft fk:Fl}{ts:List bR}{cn:List Nat}{L:List aX}{μ:Mem}(hO:Ow (ca T tk ct fr mn::Pt xb 126 (sI c f aB ft ts fk cn).pv::L) μ){K:Mem->Prop}
  (hK:∀s μ',Ow (ca (T.add q c xb aB s) (aF tk (q++[c]) ts) (aF ct (q++[c]) cn) (aF fr (q++[c]) []) (aF mn (q++[c]) [])::L) μ'->K μ'):
  gP 1 8 110 (T.S q).1 (T.K q).length (T.S q).2 (.list 1 .nr [[pP xb 0]]) μ (λa n' c' u=>stM (T.B q) 7 [.raw (.slice a n' c')] u K):=by
 have GB:=h.kl hq;have Ky:=h.KJ;obtain⟨A,B,F,e,h1⟩:=ca.out hq hO;have h2:Ow (Gz T q::Pt (T.B q) 126 (gJ T tk ct fr mn q F).pv::Ow ((A++B).map (dW T tk ct fr mn))::Pt xb 126 (sI c f aB ft ts fk cn).pv::L) μ:=h1.swap;have Cd:(ij T q).length=(T.K q).length:=by simp
 obtain⟨a,c0,ep,jf⟩:=cA.app h2 (λr hr=>by obtain⟨d,_,rfl⟩:=mem_map.1 hr;rfl);obtain⟨e1,_,e3⟩:(T.S q).1=a/\(T.K q).length=(ij T q).length/\(T.S q).2=c0:=by
  simp only[PV.raw.injEq,Value.slice.injEq]at ep;exact ep
 rw[<- e1,Cd,<- e3]at jf;refine jf [pP xb 0] 8 (λa n' c' u=>stM (T.B q) 7 [.raw (.slice a n' c')] u K) rfl rfl (by omega) (by omega) λb' c' μ2 h3=>?_;refine h3.st 1 rfl (by simp) λu h4=>hK (some ⟨b',0,none⟩,c') u ?_;have aZ:∀r∈T.D,r≠q++[c]:=λr hr e=>hn (e▸hr);have HW:(A++q::B).Nodup:=by rw[<- e];exact h.nodup
 have RF:∀r∈A++B,r∈T.D/\r≠q:=λr hr=>by
  obtain⟨n1,n2,n3⟩:=nodup_append.1 HW;refine⟨by rw[e];rcases mem_append.1 hr with h|h<;>simp[h],?_⟩;rintro rfl;rcases mem_append.1 hr with h|h
  ·exact n3 r h r (by simp) rfl
  ·exact(nodup_cons.1 n2).1 h
 generalize hs:((some ⟨b',0,none⟩,c'):Option Addr×Nat)=s;have HR:s.1=some ⟨b',0,none⟩:=by rw[<- hs]
 have Cc:s.2=c':=by rw[<- hs]
 generalize Ii:T.add q c xb aB s=T';have ZZ:∀r,r≠q++[c]->T'.B r=T.B r:=λr hr=>by rw[<- Ii];exact aT hr
 have hold:(A++B).map (dW T' (aF tk (q++[c]) ts) (aF ct (q++[c]) cn) (aF fr (q++[c]) []) (aF mn (q++[c]) []))=(A++B).map (dW T tk ct fr mn):=map_congr_left λr hr=>by
  obtain⟨PC,DR⟩:=RF r hr;have VD:=aZ r PC;refine ca.KN (ZZ r VD) (by rw[<- Ii];exact aT VD) (by rw[<- Ii];exact aT VD) ?_ ?_ (λd hd=>ZZ _ (aZ _ ((h.kids r PC d).1 hd))) (aT VD) (aT VD) (aT VD) (aT VD)
  ·rw[<- Ii];show aF (aF T.K q _) (q++[c]) [] r=_;rw[aT VD,aT DR]
  ·rw[<- Ii];show aF (aF T.S q _) (q++[c]) _ r=_;rw[aT VD,aT DR]
 have HS:=aZ q hq;have XH:T'.K q=T.K q++[c]:=by
  rw[<- Ii];show aF (aF T.K q _) (q++[c]) [] q=_;rw[aT HS,cx]
 have hSq:T'.S q=s:=by
  rw[<- Ii];show aF (aF T.S q _) (q++[c]) _ q=_;rw[aT HS,cx]
 have hKn:T'.K (q++[c])=[]:=by rw[<- Ii];exact cx _ _ _
 have hSn:T'.S (q++[c])=(none,0):=by rw[<- Ii];exact cx _ _ _
 have hBn:T'.B (q++[c])=xb:=by rw[<- Ii];exact cx _ _ _
 have hMn:T'.M (q++[c])=aB:=by rw[<- Ii];exact cx _ _ _
 have hEn:T'.E (q++[c])=0:=by rw[<- Ii];exact cx _ _ _
 have hMq:T'.M q=T.M q:=by rw[<- Ii];exact aT HS
 have hEq:T'.E q=T.E q:=by rw[<- Ii];exact aT HS
 have ag5:(gJ T' (aF tk (q++[c]) ts) (aF ct (q++[c]) cn) (aF fr (q++[c]) []) (aF mn (q++[c]) []) q F).pv=dy (gJ T tk ct fr mn q F).pv 7 [.raw (.slice (some ⟨b',0,none⟩) ((T.K q).length+1) c')]:=by
  unfold gJ lZ.pv;rw[XH,hSq,hMq,hEq,aT HS,aT HS,aT HS,aT HS,HR,Cc,length_append];rfl
 have hVq:Gz T' q=cA 110 1 (.raw (.slice (some ⟨b',0,none⟩) ((T.K q).length+1) c')) (ij T q++[[pP xb 0]]):=by
  unfold Gz ij;rw[XH,hSq,HR,Cc,length_append,map_append,map_cons,List.map_nil,hBn];rw[map_congr_left λd hd=>by rw[ZZ _ (aZ _ ((h.kids q hq d).1 hd))]];rfl
 have ag6:(gJ T' (aF tk (q++[c]) ts) (aF ct (q++[c]) cn) (aF fr (q++[c]) []) (aF mn (q++[c]) []) (q++[c]) ⟨.sh,.sh,.sh,f,ft,fk,.nil,.nil⟩).pv=(sI c f aB ft ts fk cn).pv:=by
  unfold gJ sI lZ.pv;simp only[oF,cx,hKn,hSn,hMn,hEn];rfl
 have hVn:Gz T' (q++[c])=cA 110 1 (.raw (.slice none 0 0)) []:=by
  unfold Gz ij;rw[hKn,hSn];rfl
 have h5:Ow (Pt (T.B q) 126 (dy (gJ T tk ct fr mn q F).pv 7 [.raw (.slice (some ⟨b',0,none⟩) ((T.K q).length+1) c')])::cA 110 1 (.raw (.slice (some ⟨b',0,none⟩) ((T.K q).length+1) c')) (ij T q++[[pP xb 0]])::Ow ((A++B).map (dW T tk ct fr mn))::Pt xb 126 (sI c f aB ft ts fk cn).pv::L) u:=h4.swap;have h6:Ow (dW T' (aF tk (q++[c]) ts) (aF ct (q++[c]) cn) (aF fr (q++[c]) []) (aF mn (q++[c]) []) q::Ow ((A++B).map (dW T' (aF tk (q++[c]) ts) (aF ct (q++[c]) cn) (aF fr (q++[c]) []) (aF mn (q++[c]) [])))::dW T' (aF tk (q++[c]) ts) (aF ct (q++[c]) cn) (aF fr (q++[c]) []) (aF mn (q++[c]) []) (q++[c])::L) u:=by
  rw[hold];have h7:Ow ([Pt (T.B q) 126 (dy (gJ T tk ct fr mn q F).pv 7 [.raw (.slice (some ⟨b',0,none⟩) ((T.K q).length+1) c')]),cA 110 1 (.raw (.slice (some ⟨b',0,none⟩) ((T.K q).length+1) c')) (ij T q++[[pP xb 0]])]++(Ow ((A++B).map (dW T tk ct fr mn))::Pt xb 126 (sI c f aB ft ts fk cn).pv::L)) u:=h5;have g1:∀ν,Ow [Pt (T.B q) 126 (dy (gJ T tk ct fr mn q F).pv 7 [.raw (.slice (some ⟨b',0,none⟩) ((T.K q).length+1) c')]),cA 110 1 (.raw (.slice (some ⟨b',0,none⟩) ((T.K q).length+1) c')) (ij T q++[[pP xb 0]])] ν->dW T' (aF tk (q++[c]) ts) (aF ct (q++[c]) cn) (aF fr (q++[c]) []) (aF mn (q++[c]) []) q ν:=λν hν=>⟨F,by rw[ag5,hVq,ZZ q HS];exact hν⟩;have g2:∀ν,Ow [Pt xb 126 (sI c f aB ft ts fk cn).pv,cA 110 1 (.raw (.slice none 0 0)) []] ν->dW T' (aF tk (q++[c]) ts) (aF ct (q++[c]) cn) (aF fr (q++[c]) []) (aF mn (q++[c]) []) (q++[c]) ν:=λν hν=>⟨⟨.sh,.sh,.sh,f,ft,fk,.nil,.nil⟩,by rw[ag6,hVn,hBn];exact hν⟩;refine(h7.pack.imp g1).tail λν hν=>hν.tail λν2 h8=>?_;have h9:Ow ([Pt xb 126 (sI c f aB ft ts fk cn).pv,cA 110 1 (.raw (.slice none 0 0)) []]++L) ν2:=h8.tail λ_ h=>cA.nil _ _ h;exact h9.pack.imp g2
 unfold ca;have hD:T'.D=A++q::(B++[q++[c]]):=by
  rw[<- Ii];show T.D++[q++[c]]=_;rw[e];simp
 rw[hD,map_append,map_cons,map_append];refine Ow.pack ?_;rw[append_assoc];refine Ow.GN (L1:=A.map (dW T' (aF tk (q++[c]) ts) (aF ct (q++[c]) cn) (aF fr (q++[c]) []) (aF mn (q++[c]) []))) (L:=(B.map (dW T' (aF tk (q++[c]) ts) (aF ct (q++[c]) cn) (aF fr (q++[c]) []) (aF mn (q++[c]) []))++[q++[c]].map (dW T' (aF tk (q++[c]) ts) (aF ct (q++[c]) cn) (aF fr (q++[c]) []) (aF mn (q++[c]) [])))++L) (h6.tail λν hν=>?_);have h7:=hν.nest;rw[map_append,append_assoc]at h7;rw[append_assoc];exact h7
end
def dz(B:Int)(es:List aj)(l:List ae):Prop:=∃(i:Nat) (h:i<l.length) (j:Nat),B<((dB es l[i] (az es (l.take i)) j:Nat):Int)
inductive rm(B M:Int)(es:List aj)(ps:List Prod)(p:Prod):Int->List Prod->Prop
 |form (h:(bQ p).2.1≠0):rm B M es ps p (bQ p).2.1 ps
 |there (h:(bQ p).2.1=0) (h2:(aL bE jQ p.name ps).isSome):rm B M es ps p 3 ps
 |dO (h:(bQ p).2.1=0) (h2:aL bE jQ p.name ps=none) (h3:dz B es p.conds):rm B M es ps p 25 ps
 |eb (h:(bQ p).2.1=0) (h2:aL bE jQ p.name ps=none) (h3:¬dz B es p.conds) (h4:M<((cW es ps+(az es p.conds).length:Nat):Int)):rm B M es ps p 26 ps
 |ok (h:(bQ p).2.1=0) (h2:aL bE jQ p.name ps=none) (h3:¬dz B es p.conds) (h4:((cW es ps+(az es p.conds).length:Nat):Int)<=M):rm B M es ps p 0 (aY bE jQ p ps)
theorem LX{T:Tree}(h:rV T){B':Path->Nat}(hB:∀r∈T.D,B' r=T.B r){l:Path}(hl:l∈T.D):dJ B' l=dJ T.B l:=by
 unfold dJ;exact map_congr_left λi _=>hB _ (h.QK hl (take_prefix _ _))
theorem QM{T:Tree}(h:rV T){B':Path->Nat}(hB:∀r∈T.D,B' r=T.B r){ps:List Prod}(hl:∀q∈ps,q.conds∈T.D):ps.map (iP B')=ps.map (iP T.B):=
 map_congr_left λq hq=>by unfold iP;rw[LX h hB (hl q hq)]
theorem yI(B:Path->Nat)(s:ByteArray)(ps:List Prod):aL RP.ck RP.key (RP.key (s,RP.z)) (ps.map (iP B))=(aL bE jQ s ps).map (iP B):=nO
theorem wE.u{x:NC}{T:Tree}{es:List aj}{ms:dj}{ids:pQ}{tk:Path->List bR}{ct:Path->List Nat}{ps:List Prod}{w:Nat}{W:Path->Prop}(h:wE x T es ms ids tk ct ps w W):bY RP.ck RP.key (ps.map (iP T.B)):=bY.map h.Nn
section
variable {n:Nat} {x:NC} {es:List aj} {ms:dj} {ids:pQ} {T:Tree} {tk:Path->List bR} {ct:Path->List Nat} {fr:Path->List bR} {mn:Path->List Nat} {ps:List Prod} {w:Nat} {W:Path->Prop}
theorem wE.mono(h:wE x T es ms ids tk ct ps w W){w':Nat}(hw:w<=w'){W':Path->Prop}(hW:∀r,W r->W' r):wE x T es ms ids tk ct ps w' W':=
 ⟨h.core,λr h1 h2 h3=>h.HA r h1 h2 λh4=>h3 (hW r h4),h.ids,h.root,h.tb,h.mb,h.Nn,h.Ji,h.pD,h.ends,h.tags,le_trans h.LS hw,by have:=h.dl;omega⟩
theorem OS(h:wE x T es ms ids tk ct ps w W){q:Prod}(hq:q∈ps):0<T.E q.conds:=by
 rw[h.ends _ (h.pD q hq)];exact List.length_pos_of_mem (mem_filter.2 ⟨hq,by simp⟩)
theorem wE.QI(h:wE x T es ms ids tk ct ps w W){T':Tree}{cr:dj}(hC:jq x.T T' es cr tk ct)(hN:TT T' λ_=>False)(hB:T'.B=T.B)(hE:T'.E=T.E)(jV:∀r∈T'.D,r∈T.D)(sG:∀r∈T.D,0<T.E r->r∈T'.D):wE x T' es cr ids tk ct ps w λ_=>False:=
 ⟨hC,hN,h.ids,by rw[hB];exact h.root,h.tb,h.mb,h.Nn,h.Ji,λq hq=>sG _ (h.pD q hq) (OS h hq),λp hp=>by rw[hE];exact h.ends p (jV p hp),h.tags,h.LS,le_trans (jx hC.tree.nodup jV) h.dl⟩
theorem wE.add{q:Path}{c:ae}{xb:Nat}{aB:List Int}{s:Option Addr×Nat}{cr:dj}(h:wE x T es ms ids tk ct ps w (λr=>r <+: q))(hq:q∈T.D)(hn:q++[c]∉T.D)(hl:q.length<16)(hc:tp c)(hs:ah (q++[c])<=100)(hm:aB.length=aN c)(hf:T.D.length+1<=5000)(hu:fC es cr (aB++T.D.flatMap T.M))(hk:iG ms cr)(tM:kt cr aB 0 c)(hle:∀j,((dB es c (az es q) j:Nat):Int)<=x.T)(hdl:T.D.length+1<=1+16*w)(wD:∀j∈aB,-1<=j):
  wE x (T.add q c xb aB s) es cr ids (aF tk (q++[c]) (stepT es c (az es q))) (aF ct (q++[c]) (kK es c (az es q))) ps w (λr=>r <+: q++[c]):=by
 have CG:∀r,r∈(T.add q c xb aB s).D↔r∈T.D\/r=q++[c]:=λr=>by unfold Tree.add;simp
 have aZ:∀r∈T.D,r≠q++[c]:=λr hr e=>hn (e▸hr);refine⟨h.core.add hq hn hl hc hs hm hf hu hk tM hle wD,λr hr Mq hW=>?_,h.ids,?_,h.tb,h.mb,h.Nn,h.Ji,λp hp=>(CG _).2 (.inl (h.pD p hp)),λp hp=>?_,h.tags,h.LS,?_⟩
 ·have hW:¬r <+: q++[c]:=hW;have VB:r∈T.D:=((CG r).1 hr).resolve_right λe=>hW (by rw[e];exact prefix_refl _);have RF:r≠q:=λe=>hW (by rw[e];exact prefix_append _ _);have h1:=h.HA r VB Mq λh2=>hW (List.IsPrefix.trans h2 (prefix_append _ _));show aF (aF T.K q _) (q++[c]) [] r≠[]\/0<aF T.E (q++[c]) 0 r;rw[aT (aZ r VB),aT RF,aT (aZ r VB)];exact h1
 ·show x.root=aF T.B (q++[c]) xb [];rw[aT (aZ _ h.core.tree.root)];exact h.root
 ·show aF T.E (q++[c]) 0 p=_;rcases(CG p).1 hp with hp|rfl
  ·rw[aT (aZ p hp)];exact h.ends p hp
  ·rw[cx];symm;rw[List.length_eq_zero_iff,List.filter_eq_nil_iff];intro p hp e;have e:p.conds=q++[c]:=by simpa using e
   exact hn (e▸h.pD p hp)
 ·show(T.D++[q++[c]]).length<=_;rw[length_append,List.length_singleton];exact hdl
def Tree.ends(T:Tree)(p:Path)(v:Nat):Tree:=⟨T.D,T.B,T.M,aF T.E p v,T.K,T.S⟩
theorem rV.ends{p:Path}{v:Nat}(h:rV T):rV (T.ends p v):=⟨h.nodup,h.root,h.kids,h.HL,h.up,h.len,h.YK,h.size,h.ml,h.m0,h.KJ,h.mge⟩
theorem jq.ends{B:Int}{p:Path}{v:Nat}(h:jq B T es ms tk ct):jq B (T.ends p v) es ms tk ct:=⟨h.tree.ends,h.use,h.fit,⟨h.dO.tok,h.dO.cnt,h.dO.le⟩⟩
theorem ca.ends{p:Path}{v:Nat}{A B:List Path}{F:Fls}(hn:T.D.Nodup)(e:T.D=A++p::B){L:List aX}{μ:Mem}(h:Ow (Pt (T.B p) 126 (dy (gJ T tk ct fr mn p F).pv 11 [pI ((v:Nat):Int)])::Gz T p::Ow ((A++B).map (dW T tk ct fr mn))::L) μ):Ow (ca (T.ends p v) tk ct fr mn::L) μ:=by
 refine ca.in_ (T:=T.ends p v) e (F:=F) ?_;have jm:(A++B).map (dW (T.ends p v) tk ct fr mn)=(A++B).map (dW T tk ct fr mn):=map_congr_left λr hr=>by
  have RF:r≠p:=by
   rintro rfl;rw[e]at hn;obtain⟨n1,n2,n3⟩:=nodup_append.1 hn;rcases mem_append.1 hr with h|h
   ·exact n3 r h r (by simp) rfl
   ·exact(nodup_cons.1 n2).1 h
  exact ca.KN (T:=T) (T':=T.ends p v) rfl rfl (aT RF) rfl rfl (λ_ _=>rfl) rfl rfl rfl rfl
 rw[jm];have lq:(gJ (T.ends p v) tk ct fr mn p F).pv=dy (gJ T tk ct fr mn p F).pv 11 [pI ((v:Nat):Int)]:=by
  unfold gJ lZ.pv Tree.ends;simp only[cx];rfl
 rw[lq];exact h
theorem Dg{a b:List Prod}(h:a.Perm b):cW es a=cW es b:=Ab (h.map _)
theorem wE.put{p:Prod}(h:wE x T es ms ids tk ct ps w (λr=>r <+: p.conds))(hp:rX p)(hD:p.conds∈T.D)(hn:aL bE jQ p.name ps=none)(hw:ps.length+1<=w):wE x (T.ends p.conds (T.E p.conds+1)) es ms ids tk ct (aY bE jQ p ps) w (λ_=>False):=by
 have sD:=nM (ck:=bE) (key:=jQ) cy (L:=ps) (x:=p) hn;refine⟨h.core.ends,λr hr Mq _=>?_,h.ids,h.root,h.tb,h.mb,h.Nn.ins cy p,λq hq=>?_,λq hq=>?_,λr hr=>?_,h.tags,?_,h.dl⟩
 ·show T.K r≠[]\/0<aF T.E p.conds (T.E p.conds+1) r;by_cases e:r=p.conds
  ·right;rw[e,cx];omega
  ·rw[aT e];by_cases fS:r <+: p.conds
   ·left;obtain⟨s,hs⟩:=fS;cases s with
    |nil=>rw[List.append_nil]at hs;exact absurd hs e
    |cons d s=>
     have:r++[d]∈T.D:=h.core.tree.QK hD ⟨s,by rw[<- hs];simp⟩;have:=(h.core.tree.kids r hr d).2 this;intro e0;rw[e0]at this;cases this
   ·exact h.HA r hr Mq fS
 ·rcases(bg cy).1 hq with rfl|⟨h1,_⟩
  ·exact hp
  ·exact h.Ji q h1
 ·rcases(bg cy).1 hq with rfl|⟨h1,_⟩
  ·exact hD
  ·exact h.pD q h1
 ·show aF T.E p.conds (T.E p.conds+1) r=_;rw[(sD.filter _).length_eq,List.filter_cons];by_cases e:r=p.conds
  ·rw[e,cx,if_pos (by simp),length_cons,h.ends _ hD]
  ·rw[aT e,if_neg (by simpa using λe'=>e e'.symm),h.ends r hr]
 ·rw[sD.length_eq,length_cons];exact hw
end
section
variable {n:Nat} {x:NC} {es:List aj} {ps:List Prod} {w:Nat}
theorem Ju(B:Path->Nat)(l:Path){i:Nat}(hi:i<l.length):dJ B (l.take (i+1))=dJ B (l.take i)++[B (l.take (i+1))]:=by
 unfold dJ;rw[length_take,length_take,min_eq_left (by omega),min_eq_left (by omega),List.range_succ,map_append];congr 1
 ·refine map_congr_left λj hj=>?_;have Jn:=List.mem_range.1 hj;rw[take_take,take_take,min_eq_left (by omega),min_eq_left (by omega)]
 ·simp[take_take]
theorem XX(hw:w<100)(fc fa:Fl)(p:Prod)(hlp:bW p.conds)(DQ:ah p.conds<=1000000)(PM:p.bh.length<=1000000){L:List aX}{μ:Mem}(hO:Ow (ko n x es ps w::L) μ){K:Kq}
  (hk:∀e Gw μ',rm x.T x.M es ps p e Gw->Ow (ko n x es Gw (w+1)::L) μ'->K (pI e) μ'):
  aa prog 32 [pP n 0,.agg [pS p.name,.list 7 fc (p.conds.map ae.pv),.list 19 fa (p.bh.map cN.pv)]] μ K:=by
 obtain⟨T,ms,ids,tk,ct,fr,mn,⟨hR,pH⟩,h1⟩:=ko.open_ hO;obtain⟨ht1,Zd⟩:=hR.tb;obtain⟨yC,rH⟩:=hR.mb;have adh:=hR.LS;refine BZ.c ((aaF .sh .sh p hlp DQ PM).call ⟨_,_,rfl,ab.mk (λhc=>?_) (λhc=>?_)⟩)
 ·exact hk _ _ _ (.form (by simpa using hc)) (ko.shut (hR.mono (by omega) λ_ h=>h) pH (show Ow (gw n x es ms ids T tk ct fr mn ps L) μ from h1))
 have Ig:(bQ p).2.1=0:=by simpa using hc
 have hpk:rX p:=⟨Ig,hlp⟩;obtain⟨ahb,alO,ac5,ac4,hac,aZ,hlen⟩:=hpk.facts;have XG:(ps.map (iP T.B)).length<=100:=by rw[length_map];have:=hR.LS;omega
 refine⟨λ_ u=>aL bE jQ p.name ps=none/\Ow (gw n x es ms ids T tk ct fr mn ps L) u,?_,?_⟩
 ·
  dsimp only[nP,nn,aU];refine⟨_,aI (ak.zb (x:=x) (es:=es) (ms:=ms) (ids:=ids) h1 (by simp)) (by simp),?_,λb7 Ih=>?_⟩
  ·refine RP.iB (Ow.at 2 rfl h1) hR.u (by omega) p.name (λy μ' hy h2=>?_) (λμ' hy h2=>?_)
   ·refine⟨_,_,_,_,_,_,_,_,rfl,λb7 Ih=>?_⟩;refine(h2.new 108 _ Ih).st 0 rfl (by simp) λu2 h3=>ab.t rfl (hk _ _ _ (.there Ig ?_) (ko.shut (fr:=fr) (mn:=mn) (hR.mono (by omega) λ_ h=>h) pH ?_))
    ·rw[yI]at hy;cases hg:aL bE jQ p.name ps with
     |some z=>rfl
     |none=>rw[hg]at hy;cases hy
    ·exact Ow.ord [1,1,0] h3.drop
   ·refine⟨_,_,_,_,_,_,_,_,rfl,λb7 Ih=>?_⟩;refine(h2.new 108 _ Ih).st 0 rfl (by simp) λu2 h3=>ab.f rfl ⟨?_,?_⟩
    ·rw[yI]at hy;cases hg:aL bE jQ p.name ps with
     |some z=>rw[hg]at hy;cases hy
     |none=>rfl
    ·exact Ow.ord [1,1,0] h3.drop
  ·have h1b:=h1.new 108 [pS ⟨#[]⟩,.list 7 .nil [],.list 19 .nil [],.list 1 .nil []] Ih;refine RP.iB (Ow.at 3 rfl h1b) hR.u (by omega) p.name (λy μ' hy h2=>?_) (λμ' hy h2=>?_)
   ·refine⟨_,_,_,_,_,_,_,_,rfl,?_⟩;refine h2.st 1 rfl (by simp) λu2 h3=>ab.t rfl (hk _ _ _ (.there Ig ?_) (ko.shut (fr:=fr) (mn:=mn) (hR.mono (by omega) λ_ h=>h) pH ?_))
    ·rw[yI]at hy;cases hg:aL bE jQ p.name ps with
     |some z=>rfl
     |none=>rw[hg]at hy;cases hy
    ·exact Ow.ord [1,1,0] (Ow.drop (Ow.ord [1] h3))
   ·refine⟨_,_,_,_,_,_,_,_,rfl,?_⟩;refine h2.st 1 rfl (by simp) λu2 h3=>ab.f rfl ⟨?_,?_⟩
    ·rw[yI]at hy;cases hg:aL bE jQ p.name ps with
     |some z=>rw[hg]at hy;cases hy
     |none=>rfl
    ·exact Ow.ord [1,1,0] (Ow.drop (Ow.ord [1] h3))
 rintro _ u1 ⟨hg,h2⟩;dsimp only[nP,nn,aU];refine⟨_,aI (ak.zb (x:=x) (es:=es) (ms:=ms) (ids:=ids) h2 (by simp)) (by simp),?_⟩;refine ao.XQ (n:=p.conds.length) (by omega) (λi s y u=>∃T ms tk ct fr mn,(s=some ⟨T.B (p.conds.take i),0,none⟩/\y.2=(dJ T.B (p.conds.take i)).map (λb=>[pP b 0])/\wE x T es ms ids tk ct ps (w+1) (λr=>r <+: p.conds.take i)/\p.conds.take i∈T.D/\T.D.length<=1+16*w+i)/\Ow (gw n x es ms ids T tk ct fr mn ps (fB y.1 i 1::L)) u) ?_ ?_ ?_
 ·refine⟨T,ms,tk,ct,fr,mn,⟨?_,by simp[dJ],hR.mono (by omega) λ_ h=>h.elim,hR.core.tree.root,by have:=hR.dl;omega⟩,?_⟩
  ·rw[take_zero,<- hR.root]
  ·exact h2.tail λ_ h=>h.tail λ_ h=>h.tail λ_ h=>h.tail λ_ h=>h.nil (.inl rfl)
 ·have RD:=pH;clear hR pH h1 h2 XG;rintro i s ⟨fl,_⟩ u next hi ⟨T,ms,tk,ct,fr,mn,⟨rfl,rfl,hR,vt,hdl⟩,h2⟩ aw
  have ep:p.conds.take (i+1)=p.conds.take i++[p.conds[i]]:=by rw[take_add_one,getElem?_eq_getElem hi];rfl
  have hql:(p.conds.take i).length=i:=by rw[length_take];omega
  have ee:=lH.1 ahb _ (getElem_mem hi);have Vw:ah (p.conds.take (i+1))<=16:=le_trans (gT _ _) ac4;have ajC:aN p.conds[i]<=16:=by rw[mH hi]at Vw;omega
  generalize hq:p.conds.take i=q at*
  have hci:p.conds[i]=p.conds[i]:=rfl;generalize hc:p.conds[i]=c at*
  have hqE:dJ T.B q=dJ T.B (p.conds.take i):=by rw[hq]
  dsimp only;refine ab.t (by simpa using hi) ⟨by omega,_,aH hi,_,_,_,_,_,_,_,_,_,_,mU _,?_⟩;rw[hc];have Xw:∀(T':Tree) (cr:dj) (wA:Path->List bR) (yO:Path->List Nat) (nQ:Path->List bR) (nq:Path->List Nat) (u':Mem),wE x T' es cr ids wA yO ps (w+1) (λr=>r <+: q++[c])->q++[c]∈T'.D->T'.D.length<=1+16*w+(i+1)->dJ T'.B q=dJ T.B q->Ow (gw n x es cr ids T' wA yO nQ nq ps (fB fl i 1::L)) u'->aW false 1 8 fl ((dJ T.B q).map λb=>[pP b 0]) [[pP (T'.B (q++[c])) 0]] u' λf95 aga=>next (some ⟨T'.B (q++[c]),0,none⟩,(f95,(((dJ T.B q).map λb=>[pP b 0])++[[pP (T'.B (q++[c])) 0]])),(wrap .i64 ((i:Int)+(1)))) aga:=λT' cr wA yO nQ nq u' hR' OG ZK Zb h3=>by
   have h4:Ow (fB fl i 1::ak n x es cr ids::ca T' wA yO nQ nq::RP.cq x.pr (ps.map (iP T'.B))::RT.At x.el es::L) u':=Ow.ord [4] h3;refine h4.app (by rw[length_map,rp,hql]) (by simp;omega) (by simp;omega) λf' u2 h5=>aw _ _ _ ⟨T',cr,wA,yO,nQ,nq,⟨by rw[ep],?_,by rw[ep];exact hR',by rw[ep];exact OG,ZK⟩,?_⟩
   ·rw[Ju T'.B p.conds hi,map_append,hq,ep,Zb];rfl
   ·exact Ow.ord [1,1,1,1,0] h5
  refine aiB hR.core.tree vt c _ _ _ (Ow.swap h2) (λfT=>⟨_,rfl,?_⟩) (λZt=>⟨_,rfl,?_⟩)
  ·refine⟨λs u'=>s=some ⟨T.B (q++[c]),0,none⟩/\u'=u,ab.f rfl ⟨rfl,rfl⟩,?_⟩;rintro s u' ⟨rfl,rfl⟩;exact Xw T ms tk ct fr mn u' (hR.mono (Nat.le_refl _) λr (hr:r <+: q)=>hr.trans (prefix_append _ _)) fT (by omega) rfl h2
  ·have jC:=hR.core.tree.KJ;have Xp:=hR.core.acF;have alD:=hR.core.tree.len q vt;refine⟨λs u'=>∃T' cr wA yO nQ nq,(s=some ⟨T'.B (q++[c]),0,none⟩/\wE x T' es cr ids wA yO ps (w+1) (λr=>r <+: q++[c])/\q++[c]∈T'.D/\T'.D.length<=1+16*w+(i+1)/\dJ T'.B q=dJ T.B q)/\Ow (gw n x es cr ids T' wA yO nQ nq ps (fB fl i 1::L)) u',ab.t rfl ?_,?_⟩
   ·refine aai hR.core.use (by omega) c ee (by omega) _ _ _ h2 λxb f cr aB gp oK tM yD wD u2 h3=>⟨_,rfl,?_⟩;dsimp only[nP,nn,aU];have h3n:Ow (ca T tk ct fr mn::ak n x es cr ids::Pt xb 126 (iQ c f aB).pv::RP.cq x.pr (ps.map (iP T.B))::RT.At x.el es::fB fl i 1::L) u2:=Ow.ord [2] h3;obtain⟨F,hF⟩:=ca.rd vt h3n;have gX:=hR.core.dO.tok q vt;refine⟨_,_,aI hF (by simp),?_⟩;dsimp only[gJ];rw[gX];have hlq:(az es q).length<=1000001:=by
     by_cases e:q=[]
     ·subst e;simp[az]
     ·obtain⟨r,d,rfl⟩:=oh e;have h4:=hR.core.dO.le r d vt 0;rw[jE,<- dk]at h4;omega
    have hbb:=wH (es:=es) (ou (hR.core.tree.YK q vt));have hsq:=hR.core.tree.size q vt;refine MP (n:=n) (x:=x) (ids:=ids) gp.inv hR.ids ⟨by omega,by omega⟩ (xb:=xb) (iQ c f aB) ee (by show aN c<=100;omega) tM oK (az es q) _ hlq (λt ht=>by have:=hbb t ht;omega) h3 (λhle f2 u3 h4=>⟨_,_,_,_,_,rfl,ab.f rfl ?_⟩) (λXx u3 h4=>⟨_,_,_,_,_,rfl,ab.t rfl ?_⟩)
    ·
     have hle:∀j,((dB es c (az es q) j:Nat):Int)<=x.T:=hle;refine h4.st 1 rfl (by simp) λu4 h5=>?_;refine h5.st 1 rfl (by simp[dy]) λu5 h6=>?_;have h6n:Ow (ca T tk ct fr mn::Pt xb 126 (sI c f aB f2 (stepT es c (az es q)) .sh (kK es c (az es q))).pv::ak n x es cr ids::RP.cq x.pr (ps.map (iP T.B))::RT.At x.el es::fB fl i 1::L) u5:=by
      have e:(sI c f aB f2 (stepT es c (az es q)) .sh (kK es c (az es q))).pv=dy (dy (iQ c f aB).pv 9 [.list 2 f2 ((stepT es c (az es q)).map bR.pv)]) 10 [.list 1 .sh ((kK es c (az es q)).map qx)]:=rfl;rw[e];exact Ow.ord [2,1] h6
     obtain⟨F2,Sr⟩:=ca.rd vt h6n;refine⟨_,_,_,aI Sr (by simp),?_⟩;dsimp only[gJ];refine ca.aaO hR.core.tree vt Zt h6n (K:=_) λs u6 h7=>?_;have ahf:∀r∈T.D,r≠q++[c]:=λr hr e=>Zt (e▸hr);have ZZ:∀r∈T.D,(T.add q c xb aB s).B r=T.B r:=λr hr=>aT (ahf r hr);refine⟨T.add q c xb aB s,cr,aF tk (q++[c]) (stepT es c (az es q)),aF ct (q++[c]) (kK es c (az es q)),aF fr (q++[c]) [],aF mn (q++[c]) [],⟨?_,hR.add vt Zt (by omega) ee (by rw[<- ep];omega) oK (by omega) gp yD tM hle (by omega) wD,?_,?_,?_⟩,?_⟩
     ·show some (⟨xb,0,none⟩:Addr)=some ⟨aF T.B (q++[c]) xb (q++[c]),0,none⟩;rw[cx]
     ·show q++[c]∈T.D++[q++[c]];simp
     ·show(T.D++[q++[c]]).length<=_;rw[length_append,List.length_singleton];omega
     ·exact LX hR.core.tree ZZ vt
     ·show Ow (ak n x es cr ids::ca _ _ _ _ _::RP.cq x.pr (ps.map (iP (T.add q c xb aB s).B))::RT.At x.el es::fB fl i 1::L) u6;rw[QM hR.core.tree ZZ hR.pD];exact Ow.swap h7
    ·
     obtain⟨j,hj⟩:=Xx;have hj:x.T<((dB es c (az es q) j:Nat):Int):=hj;refine MS (iQ c f aB) (l:=T.D.flatMap T.M) gp (by show aB.length<=1000;omega) h4 λJj GA hK2 u4 h5=>⟨rfl,?_⟩;have hC2:jq x.T T es Jj tk ct:=⟨hR.core.tree,GA,λr d hd=>tP (λj hj d' hm=>hK2 j d' (List.mem_flatMap.2 ⟨_,hd,hj⟩) (yD j d' hm)) d 0 (hR.core.fit r d hd),hR.core.dO⟩;have h6:Ow (ak n x es Jj ids::ca T tk ct fr mn::RP.cq x.pr (ps.map (iP T.B))::RT.At x.el es::fB fl i 1::L) u4:=h5.tail λ_ h=>h.drop;refine Tf q (by omega) hC2 vt hR.HA hR.root _ h6 λT' ms3 u5 hC3 hN3 hB3 hE3 jV sG h7=>⟨rfl,?_⟩;have hR2:wE x T es Jj ids tk ct ps (w+1) (λr=>r <+: q):=⟨hC2,hR.HA,hR.ids,hR.root,hR.tb,hR.mb,hR.Nn,hR.Ji,hR.pD,hR.ends,hR.tags,hR.LS,hR.dl⟩;refine hk _ _ _ (.dO Ig hg ⟨i,hi,j,?_⟩) (ko.shut (fr:=fr) (mn:=mn) (hR2.QI hC3 hN3 hB3 hE3 jV sG) ?_ ?_)
     ·rw[hc,hq];exact hj
     ·exact RD
     ·show Ow (ak n x es ms3 ids::ca T' tk ct fr mn::RP.cq x.pr (ps.map (iP T'.B))::RT.At x.el es::L) u5;rw[hB3];exact h7.tail λ_ h=>h.tail λ_ h=>h.tail λ_ h=>h.tail λ_ h=>h.drop
   ·rintro s u' ⟨T',cr,wA,yO,nQ,nq,⟨rfl,hR',OG,ZK,Zb⟩,h3⟩;exact Xw T' cr wA yO nQ nq u' hR' OG ZK Zb h3
 ·have RD:=pH;clear hR pH h1 h2 XG;rintro s ⟨fl,_⟩ u next ⟨T,ms,tk,ct,fr,mn,⟨rfl,rfl,hR,vt,hdl⟩,h2⟩
  dsimp only;rw[take_length]at hR vt |-;refine ab.f (by simp) ?_;have gX:=hR.core.dO.tok _ vt;have Ky:=hR.core.tree.KJ;have adv:∀r∈T.D,(tk r).length<=1024:=λr hr=>by
   rw[hR.core.dO.tok r hr];by_cases e:r=[]
   ·subst e;simp[az]
   ·obtain⟨q,d,rfl⟩:=oh e;have h4:=hR.core.dO.le q d hr 0;rw[jE,<- dk]at h4;omega
  have HU:¬dz x.T es p.conds:=by
   rintro⟨i,hi,j,hj⟩;have hD1:p.conds.take i++[p.conds[i]]∈T.D:=by
    have:p.conds.take (i+1)=p.conds.take i++[p.conds[i]]:=by rw[take_add_one,getElem?_eq_getElem hi];rfl
    rw[<- this];exact hR.core.tree.QK vt (take_prefix _ _)
   have:=hR.core.dO.le _ _ hD1 j;omega
  have ac6:(ps.map λq=>(tk q.conds).length).sum=cW es ps:=by
   unfold cW;congr 1;exact map_congr_left λq hq=>by rw[hR.core.dO.tok _ (hR.pD q hq)]
  have Xo:ps.length<=100:=by have:=hR.LS;omega
  have VJ:∀{u':Mem} {Kx:Kq},Ow (gw n x es ms ids T tk ct fr mn ps (fB fl p.conds.length 1::L)) u'->(∀μ',Ow (gw n x es ms ids T tk ct fr mn ps (fB fl p.conds.length 1::L)) μ'->Kx (pI ((cW es ps:Nat):Int)) μ')->aa prog 70 [pP n 0] u' Kx:=λ{u' Kx} h3 hKx=>by
   refine aiD (by omega) (λq hq=>?_) (λq hq=>Nat.le_succ_of_le (adv _ (hR.pD q hq))) h3 λμ' h4=>?_
   ·obtain⟨_,_,_,_,_,g1,g2⟩:=(hR.Ji q hq).facts;exact⟨hR.pD q hq,g1,by omega⟩
   ·rw[ac6];exact hKx μ' h4
  have Zj:∀{u':Mem},Ow (gw n x es ms ids T tk ct fr mn ps (fB fl p.conds.length 1::L)) u'->∃f,ay u' (T.B p.conds) (0+9) 1=some [.list 2 f ((az es p.conds).map bR.pv)]:=λ{u'} h3=>by
   obtain⟨F,hF⟩:=ca.rd vt (Ow.swap h3);have:=aI (o:=0+9) (n:=1) hF (by simp);dsimp only[gJ]at this;rw[gX]at this;exact⟨_,this⟩
  have VA:∀{u':Mem},Ow (gw n x es ms ids T tk ct fr mn ps (fB fl p.conds.length 1::L)) u'->ay u' n (0+1) 1=some [pI x.M]:=λ{u'} h3=>aI (ak.zb (x:=x) (es:=es) (ms:=ms) (ids:=ids) h3 (by simp)) (by simp);have hJ:decide (wrap .i64 (((cW es ps:Nat):Int)+((((az es p.conds).map bR.pv).length:Nat):Int))>x.M)=decide (x.M<((cW es ps+(az es p.conds).length:Nat):Int)):=by
   have h5:=adv _ vt;rw[gX]at h5;rw[length_map,aC (by omega) (by omega)];congr 1
  refine⟨λb u'=>b=decide (x.M<((cW es ps+(az es p.conds).length:Nat):Int))/\Ow (gw n x es ms ids T tk ct fr mn ps (fB fl p.conds.length 1::L)) u',?_,?_⟩
  ·dsimp only[nP,nn,aU];obtain⟨f0,hf0⟩:=Zj h2;refine⟨⟨_,_,hf0,⟨_,VA h2,VJ h2 λμ' h4=>⟨_,rfl,hJ,h4⟩,trivial⟩,VJ h2 λμ' h4=>⟨_,rfl,_,VA h4,hJ,h4⟩,trivial⟩,⟨_,VA h2,VJ h2 λμ' h4=>?_,trivial⟩,VJ h2 λμ' h4=>?_,trivial⟩
   ·obtain⟨f1,hf1⟩:=Zj h4;exact⟨_,rfl,_,_,hf1,hJ,h4⟩
   ·obtain⟨f1,hf1⟩:=Zj h4;exact⟨_,rfl,_,_,hf1,_,VA h4,hJ,h4⟩
  ·rintro b u' ⟨rfl,h3⟩;refine ab.mk (λhb=>?_) (λhb=>?_)
   ·have je:x.M<((cW es ps+(az es p.conds).length:Nat):Int):=by simpa using hb
    refine Tf p.conds (by omega) hR.core vt hR.HA hR.root _ h3 λT' ms3 u5 hC3 hN3 hB3 hE3 jV sG h7=>⟨rfl,?_⟩;refine hk _ _ _ (.eb Ig hg HU je) (ko.shut (fr:=fr) (mn:=mn) (hR.QI hC3 hN3 hB3 hE3 jV sG) RD ?_);show Ow (ak n x es ms3 ids::ca T' tk ct fr mn::RP.cq x.pr (ps.map (iP T'.B))::RT.At x.el es::L) u5;rw[hB3];exact h7.tail λ_ h=>h.tail λ_ h=>h.tail λ_ h=>h.tail λ_ h=>h.drop
   ·have je:((cW es ps+(az es p.conds).length:Nat):Int)<=x.M:=by
     have:¬x.M<((cW es ps+(az es p.conds).length:Nat):Int):=by simpa using hb
     omega
    have amU:T.E p.conds<=100:=by
     rw[hR.ends _ vt];exact le_trans (List.length_filter_le _ _) Xo
    obtain⟨A,B,F,eD,h4⟩:=ca.out vt (Ow.swap h3);refine⟨_,h4.rd 0 rfl (by simp),?_⟩;refine h4.st 0 rfl (by simp) λu2 h5=>?_;have hw1:wrap .i64 (((T.E p.conds:Nat):Int)+1)=((T.E p.conds+1:Nat):Int):=by rw[aC (by omega) (by omega)];omega
    rw[hw1]at h5;have h6:Ow (ca (T.ends p.conds (T.E p.conds+1)) tk ct fr mn::ak n x es ms ids::RP.cq x.pr (ps.map (iP T.B))::RT.At x.el es::fB fl p.conds.length 1::L) u2:=ca.ends hR.core.tree.nodup eD h5;refine⟨_,aI (ak.zb (x:=x) (es:=es) (ms:=ms) (ids:=ids) h6 (by simp)) (by simp),?_⟩;have hpr:=acz .sh .sh p DQ hlp PM;refine hpr.q ⟨_,_,_,_,_,rfl,?_⟩;rw[Mem.mJ];refine RP.mX (l:=ps.map (iP T.B)) (Ow.at 2 rfl h6) hR.u (by rw[length_map];omega) p.name ⟨p,dJ T.B p.conds⟩ λu3 h7=>⟨_,rfl,?_⟩;have vu:ps.length+1<=w+1:=by
     have ahF:=hR.LS;have:=adh;omega
    refine hk _ _ _ (.ok Ig hg HU je) (ko.shut (fr:=fr) (mn:=mn) (hR.put hpk vt hg vu) ?_ ?_)
    ·rw[Dg (nM (ck:=bE) (key:=jQ) cy (L:=ps) (x:=p) hg)];show(((((p::ps).map λq=>(az es q.conds).length).sum:Nat)):Int)<=x.M;rw[map_cons,sum_cons];unfold cW at je;omega
    ·show Ow (ak n x es ms ids::ca (T.ends p.conds (T.E p.conds+1)) tk ct fr mn::RP.cq x.pr ((aY bE jQ p ps).map (iP T.B))::RT.At x.el es::L) u3;have e2:aY RP.ck RP.key (p.name,⟨p,dJ T.B p.conds⟩) (ps.map (iP T.B))=(aY bE jQ p ps).map (iP T.B):=lQ (f:=iP T.B) (x:=p);rw[e2]at h7;exact(Ow.ord [2,1,0] h7).tail λ_ h=>h.tail λ_ h=>h.tail λ_ h=>h.tail λ_ h=>h.drop
end
def kp(e:aj):Bool:=(e.id.k == 1)&&((e.attr.k != 1)&&(fP e.id&&(fP e.attr&&fP e.value)))
theorem OZ(e:aj):Pure prog 72 [.agg e.pv] (pB (kp e)):=by
 refine av.of (Jd.c ?_);unfold kp;refine ab.mk (λh1=>ab.mk (λh2=>(FQ e.id).call ⟨_,rfl,ab.mk (λh3=>(FQ e.attr).call ⟨_,rfl,ab.mk (λh4=>(FQ e.value).call ⟨_,rfl,?_⟩) (λh4=>?_)⟩) (λh3=>?_)⟩) (λh2=>?_)) (λh1=>?_)<;>simp_all [wk,bV]
theorem KS(e:aj):Pure prog 92 [.agg e.pv] (pB (kp e)):=by
 refine av.of (sd.c ?_);unfold kp;refine(xH e.id).call ⟨_,rfl,ab.mk (λh1=>ab.mk (λh2=>(xI e.attr).call ⟨_,rfl,ab.mk (λh3=>(xH e.value).call ⟨_,rfl,?_⟩) (λh3=>?_)⟩) (λh2=>?_)) (λh1=>?_)⟩<;>simp_all [wk,bV,lV]
 all_goals (first|(intro _ h;exact h3 h)|grind)
def fD(ms cr:dj):Prop:=∀k,(aL au bO k cr).map (λy=>(y.2.c,y.2.aM))=(aL au bO k ms).map (λy=>(y.2.c,y.2.aM))
theorem fD.refl(ms:dj):fD ms ms:=λ_=>rfl
theorem fD.trans{a b c:dj}(h:fD a b)(k:fD b c):fD a c:=λj=>(k j).trans (h j)
theorem fD.map{ms:dj}{f:Int×dZ->Int×dZ}(hf:∀y,(f y).1=y.1/\(f y).2.c=y.2.c/\(f y).2.aM=y.2.aM):fD ms (ms.map f):=λk=>by
 have e:aL au bO k (ms.map f)=(aL au (λy=>bO (f y)) k ms).map f:=nO;have e2:(λy=>bO (f y))=bO:=funext λy=>(hf y).1;rw[e,e2,Option.map_map];congr 1;funext y;show((f y).2.c,(f y).2.aM)=_;rw[(hf y).2.1,(hf y).2.2]
theorem fD.mem{a b:dj}(h:fD a b):iG a b:=λj d ⟨y,hy,hd⟩=>by
 have:=h j;rw[hy]at this;cases hg:aL au bO j b with
 |none=>rw[hg]at this;cases this
 |some z=>
  rw[hg]at this;simp only[Option.map_some,Option.some.injEq,Prod.mk.injEq]at this;exact⟨z,hg,this.1.trans hd⟩
theorem fD.aM{a b:dj}(h:fD a b)(k:Int):fQ k b=fQ k a:=by
 have:=congrArg (λo:Option (ae×Int)=>(o.map (·.2)).getD 0) (h k);simp only[Option.map_map]at this;exact this
theorem fD.use{es fs:List aj}{a b:dj}{l:List Int}(h:fD a b)(hu:fC es a l)(hA:dx fs b):fC fs b l:=⟨hA,λk hk=>by rw[h.aM k];exact hu.use k hk⟩
section
variable {n:Nat} {x:NC} {es:List aj} {ms:dj} {ids:pQ}
theorem XY{pK:List aj}(hu:bY au aD es)(hle:es.length<=1000000)(t:Int){L:List aX}{μ:Mem}(hO:Ow (ak n x pK ms ids::RT.At x.el es::L) μ){K:Kq}
  (h1:∀e,aL au aD t es=some e->K (.aA [.agg e.pv,pB true]) μ) (h0:aL au aD t es=none->K (.aA [RT.zero,pB false]) μ):aa prog 73 [pP n 0,pI t] μ K:=by
 refine BW.c ?_;refine⟨_,aI (ak.zb (x:=x) (es:=pK) (ms:=ms) (ids:=ids) hO (by simp)) (by simp),?_⟩;refine RT.ku (l:=es) (Ow.swap hO) hu (by omega) ⟨⟨0,⟨#[]⟩,0⟩,⟨0,⟨#[]⟩,0⟩,⟨0,⟨#[]⟩,0⟩,false,false,t⟩ (λy hy=>⟨_,_,_,_,_,_,_,_,_,_,_,_,_,rfl,h1 y hy⟩) (λhy=>⟨_,_,_,_,_,_,_,_,_,_,_,_,_,rfl,h0 hy⟩)
end
instance decSym:DecidableEq Sym:=λa b=>if h:Uu a b=true then isTrue ((uL a b).1 h)else isFalse λe=>h ((uL a b).2 e)
theorem ji.mk2{es:List aj}{ids:pQ}(up:bY fM jM ids)(has:∀x∈ids,x.2.2=es.filter λe=>eZ e.id x.1)(one:∀e∈es,∃x∈ids,x.1=e.id)(some_:∀x∈ids,x.2.2≠[]):ji es ids:=by
 refine⟨up,has,one,some_,?_⟩;have h:=jx (a:=ids.map jM) (b:=es.map (·.id)) ?_ ?_
 ·simpa using h
 ·have h1:(ids.map jM).Pairwise λa b=>fM a b<0:=by rw[List.pairwise_map];exact up
  refine h1.imp λ{a b} xw e=>?_;rw[e]at xw;exact absurd xw (by rw[bB.self b];omega)
 ·intro s hs;obtain⟨y,hy,rfl⟩:=mem_map.1 hs;have h1:=some_ y hy;cases hl:y.2.2 with
  |nil=>exact absurd hl h1
  |cons e l=>
   have:e∈es.filter λe=>eZ e.id y.1:=by rw[<- has y hy,hl];simp
   obtain⟨h2,h3⟩:=mem_filter.1 this;exact mem_map.2 ⟨e,h2,dm.1 h3⟩
theorem KH{es:List aj}(hu:bY au aD es){e:aj}(hn:aL au aD e.tag es=none)(p:aj->Bool):(aY au aD e es).filter p=if p e then aY au aD e (es.filter p)else es.filter p:=by
 have hnn:=(bx ar).1 hn;split
 ·rename_i hp;refine bY.ext ar ((hu.ins ar e).filter _) (bY.ins ar (hu.filter _) e) λy=>?_;rw[bg ar,mem_filter,mem_filter,bg ar];constructor
  ·rintro⟨rfl|⟨h1,h3⟩,h2⟩
   ·exact .inl rfl
   ·exact .inr ⟨⟨h1,h2⟩,h3⟩
  ·rintro(rfl|⟨⟨h1,h2⟩,h3⟩)
   ·exact⟨.inl rfl,hp⟩
   ·exact⟨.inr ⟨h1,h3⟩,h2⟩
 ·rename_i hp;refine bY.ext ar ((hu.ins ar e).filter _) (hu.filter _) λy=>?_;rw[mem_filter,mem_filter,bg ar];constructor
  ·rintro⟨rfl|⟨h1,h3⟩,h2⟩
   ·exact absurd h2 hp
   ·exact⟨h1,h2⟩
  ·rintro⟨h1,h2⟩;exact⟨.inr ⟨h1,hnn y h1⟩,h2⟩
theorem KI{es:List aj}(t:Int)(p:aj->Bool):(bU au aD t es).filter p=bU au aD t (es.filter p):=by
 unfold bU;rw[List.filter_filter,List.filter_filter];exact List.filter_congr λy _=>Bool.and_comm _ _
def my(e:aj)(y:Sym×Nat×List aj):Sym×Nat×List aj:=if y.1=e.id then(y.1,y.2.1,aY au aD e y.2.2)else y
def nD(e:aj)(y:Sym×Nat×List aj):Sym×Nat×List aj:=if y.1=e.id then(y.1,y.2.1,bU au aD e.tag y.2.2)else y
theorem xR(e:aj)(y:Sym×Nat×List aj):(my e y).1=y.1/\(my e y).2.1=y.2.1:=by unfold my;split<;>exact⟨rfl,rfl⟩
theorem Au(e:aj)(y:Sym×Nat×List aj):(nD e y).1=y.1/\(nD e y).2.1=y.2.1:=by unfold nD;split<;>exact⟨rfl,rfl⟩
theorem WE(e:aj)(ids:pQ):(ids.map (my e)).map pd=ids.map pd:=by
 rw[List.map_map];exact map_congr_left λy _=>by
  show((my e y).1,some (⟨(my e y).2.1,0,none⟩:Addr))=_;rw[(xR e y).1,(xR e y).2];rfl
theorem UI(e:aj)(ids:pQ):(ids.map (nD e)).map pd=ids.map pd:=by
 rw[List.map_map];exact map_congr_left λy _=>by
  show((nD e y).1,some (⟨(nD e y).2.1,0,none⟩:Addr))=_;rw[(Au e y).1,(Au e y).2];rfl
theorem Ht{ids:pQ}(hu:bY fM jM ids){z:Sym×Nat×List aj}{A B:pQ}(e:ids=A++z::B){f:Sym×Nat×List aj->Sym×Nat×List aj}(hf:∀y,y.1≠z.1->f y=y):ids.map f=A++f z::B:=by
 have hz:z∈ids:=by rw[e];simp
 have hA:∀y∈A,f y=y:=λy hy=>hf y λh=>by
  have:y=z:=hu.inj bB (by rw[e];simp[hy]) hz h;subst this;rw[e]at hu;have:=(pairwise_append.1 hu).2.2 y hy y (by simp);exact absurd this (by rw[bB.self];omega)
 have hB:∀y∈B,f y=y:=λy hy=>hf y λh=>by
  have:y=z:=hu.inj bB (by rw[e];simp[hy]) hz h;subst this;rw[e]at hu;have:=(List.pairwise_cons.1 (pairwise_append.1 hu).2.1).1 y hy;exact absurd this (by rw[bB.self];omega)
 rw[e,map_append,map_cons]
 have m1:A.map f=A:=by conv=>rhs;rw[<- map_id A]
                       exact map_congr_left hA
 have m2:B.map f=B:=by conv=>rhs;rw[<- map_id B]
                       exact map_congr_left hB
 rw[m1,m2]
section
variable {n:Nat} {x:NC} {es:List aj} {ms:dj} {ids:pQ}
theorem ak.Xh{L:List aX}{μ:Mem}(h:Ow (ak n x es ms ids::L) μ):Ow (RI.cq x.id (ids.map pd)::Pt n 116 x.pv::bA x.al es ms::(ids.map dQ++L)) μ:=by
 have h1:Ow (Pt n 116 x.pv::bA x.al es ms::gL x.id ids::L) μ:=h.nest (L1:=[Pt n 116 x.pv,bA x.al es ms,gL x.id ids]);have h2:Ow (gL x.id ids::Pt n 116 x.pv::bA x.al es ms::L) μ:=Ow.ord [2] h1;have h3:Ow (RI.cq x.id (ids.map pd)::(ids.map dQ++(Pt n 116 x.pv::bA x.al es ms::L))) μ:=h2.nest (L1:=RI.cq x.id (ids.map pd)::ids.map dQ);exact h3.tail λν hν=>vb (ids.map dQ) [Pt n 116 x.pv,bA x.al es ms] L hν
theorem ak.Kj{L:List aX}{μ:Mem}(h:Ow (RI.cq x.id (ids.map pd)::Pt n 116 x.pv::bA x.al es ms::(ids.map dQ++L)) μ):Ow (ak n x es ms ids::L) μ:=by
 have h3:Ow (RI.cq x.id (ids.map pd)::(ids.map dQ++(Pt n 116 x.pv::bA x.al es ms::L))) μ:=h.tail λν hν=>vb [Pt n 116 x.pv,bA x.al es ms] (ids.map dQ) L hν;have h2:Ow (gL x.id ids::Pt n 116 x.pv::bA x.al es ms::L) μ:=Ow.pack (L1:=RI.cq x.id (ids.map pd)::ids.map dQ) h3;exact Ow.pack (L1:=[Pt n 116 x.pv,bA x.al es ms,gL x.id ids]) (Ow.ord [1,1,0] h2)
structure aiS(es:List aj)(ids:pQ)(z:Sym×Nat×List aj):Prop where
 up:bY fM jM ids
 has:∀y∈ids,y.2.2=es.filter λe=>eZ e.id y.1
 one:∀e∈es,∃y∈ids,y.1=e.id
 at_:z∈ids
 some_:∀y∈ids,y.1≠z.1->y.2.2≠[]
theorem XT(hA:dx es ms)(hI:ji es ids){e:aj}(hn:aL au aD e.tag es=none)(hle:es.length+1<1000000){L:List aX}{μ:Mem}(hO:Ow (ak n x es ms ids::RT.At x.el es::L) μ){K:Kq}
  (hk:∀cr iK f μ',dx (aY au aD e es) cr->ji (aY au aD e es) iK->fD ms cr->Ow (ak n x (aY au aD e es) cr iK::RT.At x.el (aY au aD e es)::L) μ'->K (.list 1 f ((eF e ms).map gn)) μ'):
  aa prog 80 [pP n 0,.agg e.pv] μ K:=by
 refine BV.c ?_;refine⟨_,aI (ak.zb (x:=x) (es:=es) (ms:=ms) (ids:=ids) hO (by simp)) (by simp),?_⟩;refine RT.fV (l:=es) (Ow.swap hO) hA.wz (by omega) e λu h1=>⟨_,rfl,?_⟩;have CE:dw RT.ck RT.key e es=aY au aD e es:=by
  rw[dw,show aL RT.ck RT.key (RT.key e) es=none from hn];rfl
 rw[CE]at h1;refine⟨_,aI (ak.zb (x:=x) (es:=es) (ms:=ms) (ids:=ids) h1 (by simp)) (by simp),?_⟩;have h2:=ak.Xh (Ow.swap h1);have hil:=hI.le;have fin:∀(iT:pQ) (z:Sym×Nat×List aj) (u2:Mem),aiS es iT z->z.1=e.id->Ow (RI.cq x.id (iT.map pd)::Pt n 116 x.pv::bA x.al es ms::(iT.map dQ++(RT.At x.el (aY au aD e es)::L))) u2->
   aa prog 74 [pP z.2.1 0,.agg e.pv] u2 λv_4 Jg=>∃(x38:Bool),v_4=(pB x38)/\∃(x43:Option Addr),ay Jg n (0+3) 1=some [(.raw (.pointer x43))]/\
     aa prog 136 [(.raw (.pointer x43)),.agg e.pv] Jg λv_5 WU=>
     ∃(WS:Fl) (abL:Lq),∃(afP:Int),v_5=(.aA [(.list 1 WS abL),(pI afP)])/\K (.list 1 WS abL) WU:=λiT z u2 hP hz h3=>by
  obtain⟨A,B,eA⟩:=List.append_of_mem hP.at_;have Xj:bY au aD z.2.2:=by rw[hP.has z hP.at_];exact hA.wz.filter _
  have DN:z.2.2.length<=es.length:=by rw[hP.has z hP.at_];exact List.length_filter_le _ _
  have hzn:aL au aD e.tag z.2.2=none:=(bx ar).2 λy hy=>(bx ar).1 hn y (by rw[hP.has z hP.at_]at hy;exact(mem_filter.1 hy).1);have eS:iT.map dQ=A.map dQ++dQ z::B.map dQ:=by rw[eA];simp
  rw[eS]at h3;have h4:=Ow.pick (P:=[RI.cq x.id (iT.map pd),Pt n 116 x.pv,bA x.al es ms]) h3;refine RT.fV (l:=z.2.2) h4 Xj (by omega) e λu5 h5=>⟨_,rfl,?_⟩;have adg:dw RT.ck RT.key e z.2.2=aY au aD e z.2.2:=by
   rw[dw,show aL RT.ck RT.key (RT.key e) z.2.2=none from hzn];rfl
  rw[adg]at h5;have RX:iT.map (my e)=A++my e z::B:=Ht hP.up eA λy hy=>by unfold my;rw[if_neg (by rw[<- hz];exact hy)]
  have haz:dQ (my e z)=RT.At z.2.1 (aY au aD e z.2.2):=by unfold dQ my;rw[if_pos hz]
  have h6:Ow (RI.cq x.id ((iT.map (my e)).map pd)::Pt n 116 x.pv::bA x.al es ms::((iT.map (my e)).map dQ++(RT.At x.el (aY au aD e es)::L))) u5:=by
   rw[WE,RX,map_append,map_cons,haz];exact Ow.qa (P:=[RI.cq x.id (iT.map pd),Pt n 116 x.pv,bA x.al es ms]) h5
  have h7:=ak.Kj h6;have yG:ji (aY au aD e es) (iT.map (my e)):=by
   refine ji.mk2 (bY.map (f:=my e) (by rw[show(λy=>jM (my e y))=jM from funext λy=>(xR e y).1];exact hP.up)) (λy hy=>?_) (λe' MB=>?_) (λy hy=>?_)
   ·obtain⟨y,Kk,rfl⟩:=mem_map.1 hy;rw[(xR e y).1,KH hA.wz hn,<- hP.has y Kk];unfold my;by_cases h:y.1=e.id
    ·rw[if_pos h,if_pos (by rw[h];exact Aa _)]
    ·rw[if_neg h,if_neg λh2=>h (dm.1 h2).symm]
   ·rcases(bg ar).1 MB with rfl|⟨h,_⟩
    ·exact⟨my e' z,mem_map_of_mem hP.at_,(xR e' z).1.trans hz⟩
    ·obtain⟨y,hy,hye⟩:=hP.one e' h;exact⟨my e y,mem_map_of_mem hy,(xR e y).1.trans hye⟩
   ·obtain⟨y,Kk,rfl⟩:=mem_map.1 hy;unfold my;by_cases h:y.1=e.id
    ·rw[if_pos h];intro h0;have:e∈aY au aD e y.2.2:=(bg ar).2 (.inl rfl);rw[show aY au aD e y.2.2=[]from h0]at this;cases this
    ·rw[if_neg h];exact hP.some_ y Kk (by rw[hz];exact h)
  refine⟨_,aI (ak.zb (x:=x) (es:=es) (ms:=ms) (ids:=iT.map (my e)) h7 (by simp)) (by simp),?_⟩;refine aey (ak.alpha h7) hA e (λhs=>by rw[hn]at hs;cases hs) λ_ u6 f h8=>⟨_,_,_,rfl,?_⟩;refine hk (ms.map (wW e)) (iT.map (my e)) f u6 (hA.wW hn hle) yG (fD.map λy=>⟨rfl,rfl,rfl⟩) ?_;exact ak.back h8
 refine RI.iB h2 hI.u (by simp;omega) e.id (λy u2 hy h3=>?_) (λu2 hy h3=>?_)
 ·rw[KE]at hy;obtain⟨z,hz,rfl⟩:=Option.map_eq_some_iff.1 hy;obtain⟨Py,Fj⟩:=(a_ bB hI.up).1 hz;refine⟨_,_,rfl,λs u=>s=some ⟨z.2.1,0,none⟩/\u=u2,ab.f rfl ⟨rfl,rfl⟩,?_⟩;rintro s u' ⟨rfl,rfl⟩;exact fin ids z u' ⟨hI.up,hI.has,hI.one,Py,λy hy _=>hI.some_ y hy⟩ Fj h3
 ·rw[KE]at hy;have hz:aL fM jM e.id ids=none:=map_none hy;have hzn:=(bx bB).1 hz;refine⟨_,_,rfl,λs u=>∃b,s=some ⟨b,0,none⟩/\Ow (RI.cq x.id ((aY fM jM (e.id,b,[]) ids).map pd)::Pt n 116 x.pv::bA x.al es ms::((aY fM jM (e.id,b,[]) ids).map dQ++(RT.At x.el (aY au aD e es)::L))) u,ab.t rfl ?_,?_⟩
  ·refine RT.gu h3 .nil [] (by simp) λu3 b h4=>⟨_,rfl,?_⟩;dsimp only[nP,nn,aU];have h5:Ow (RI.cq x.id (ids.map pd)::RT.At b []::Pt n 116 x.pv::bA x.al es ms::(ids.map dQ++(RT.At x.el (aY au aD e es)::L))) u3:=h4.swap;refine⟨_,h5.rd 2 rfl (by simp),?_⟩;refine RI.mX h5 hI.u (by simp;omega) e.id (some ⟨b,0,none⟩) λu4 h6=>⟨_,rfl,b,rfl,?_⟩;have e2:aY RI.ck RI.key (e.id,some ⟨b,0,none⟩) (ids.map pd)=(aY fM jM (e.id,b,[]) ids).map pd:=lQ (f:=pd) (x:=(e.id,b,[]));rw[e2]at h6;have sD:((aY fM jM (e.id,b,[]) ids).map dQ).Perm (RT.At b []::ids.map dQ):=(nM (ck:=fM) (key:=jM) bB (x:=(e.id,b,[])) hz).map dQ;refine h6.tail λν hν=>?_;have h7:Ow (Pt n 116 x.pv::bA x.al es ms::((RT.At b []::ids.map dQ)++(RT.At x.el (aY au aD e es)::L))) ν:=Ow.ord [1,1,0] hν;exact h7.tail λ_ h=>h.tail λ_ h=>h.perm (sD.symm.append_right _)
  ·rintro s u' ⟨b,rfl,h4⟩;refine fin _ (e.id,b,[]) u' ⟨hI.up.ins bB _,λy hy=>?_,λe' MB=>?_,(bg bB).2 (.inl rfl),λy hy aZ=>?_⟩ rfl h4
   ·rcases(bg bB).1 hy with rfl|⟨h,_⟩
    ·symm;rw[List.filter_eq_nil_iff];intro e' MB hs;obtain⟨y,hy,hk⟩:=hI.one e' MB;exact hzn y hy (hk.trans (dm.1 hs))
    ·exact hI.has y h
   ·obtain⟨y,hy,hk⟩:=hI.one e' MB;exact⟨y,(bg bB).2 (.inr ⟨hy,hzn y hy⟩),hk⟩
   ·rcases(bg bB).1 hy with rfl|⟨h,_⟩
    ·exact absurd rfl aZ
    ·exact hI.some_ y h
theorem Te(hA:dx es ms)(hI:ji es ids){e:aj}(he:e∈es){L:List aX}{μ:Mem}(hO:Ow (ak n x es ms ids::RT.At x.el es::L) μ){K:Kq}
  (hk:∀cr iK f μ',dx (bU au aD e.tag es) cr->ji (bU au aD e.tag es) iK->fD ms cr->Ow (ak n x (bU au aD e.tag es) cr iK::RT.At x.el (bU au aD e.tag es)::L) μ'->K (.list 1 f ((eF e ms).map gn)) μ'):
  aa prog 78 [pP n 0,.agg e.pv] μ K:=by
 have hle:=hA.le;have hil:=hI.le;have Sb:aL au aD e.tag es=some e:=(a_ ar hA.wz).2 ⟨he,rfl⟩;refine zo.c ?_;refine⟨_,aI (ak.zb (x:=x) (es:=es) (ms:=ms) (ids:=ids) hO (by simp)) (by simp),?_⟩;refine RT.gK (l:=es) (Ow.swap hO) hA.wz (by omega) e λu h1=>⟨_,rfl,?_⟩;have ahE:bU RT.ck RT.key (RT.key e) es=bU au aD e.tag es:=rfl;rw[ahE]at h1;refine⟨_,aI (ak.zb (x:=x) (es:=es) (ms:=ms) (ids:=ids) h1 (by simp)) (by simp),?_⟩;have h2:=ak.Xh (Ow.swap h1);refine RI.iB h2 hI.u (by simp;omega) e.id (λy u2 hy h3=>?_) (λu2 hy h3=>?_)
 ·rw[KE]at hy;obtain⟨z,hz,rfl⟩:=Option.map_eq_some_iff.1 hy;obtain⟨Py,Fj⟩:=(a_ bB hI.up).1 hz;have Fj:z.1=e.id:=Fj;obtain⟨A,B,eA⟩:=List.append_of_mem Py;have Xj:bY au aD z.2.2:=by rw[hI.has z Py];exact hA.wz.filter _
  have DN:z.2.2.length<=es.length:=by rw[hI.has z Py];exact List.length_filter_le _ _
  have eS:ids.map dQ=A.map dQ++dQ z::B.map dQ:=by conv=>lhs;rw[eA]
                                                  simp
  rw[eS]at h3;have h4:=Ow.pick (P:=[RI.cq x.id (ids.map pd),Pt n 116 x.pv,bA x.al es ms]) h3;have RX:ids.map (nD e)=A++nD e z::B:=Ht hI.up eA λy hy=>by unfold nD;rw[if_neg (by rw[<- Fj];exact hy)]
  have haz:dQ (nD e z)=RT.At z.2.1 (bU au aD e.tag z.2.2):=by unfold dQ nD;rw[if_pos Fj]
  refine⟨_,_,rfl,λ_ u=>∃iK,ji (bU au aD e.tag es) iK/\Ow (ak n x es ms iK::RT.At x.el (bU au aD e.tag es)::L) u,ab.t rfl ?_,?_⟩
  ·refine RT.gK (l:=z.2.2) h4 Xj (by omega) e λu5 h5=>⟨_,rfl,RT.aat h5 ⟨_,rfl,?_⟩⟩;have adN:bU RT.ck RT.key (RT.key e) z.2.2=bU au aD e.tag z.2.2:=rfl;rw[adN]at h5 |-;have adV:∀y∈ids,(nD e y).2.2=(bU au aD e.tag es).filter λe'=>eZ e'.id y.1:=λy hy=>by
    rw[KI,<- hI.has y hy];unfold nD;by_cases h:y.1=e.id
    ·rw[if_pos h]
    ·rw[if_neg h];symm;refine List.filter_eq_self.2 λe' MB=>?_;rw[hI.has y hy]at MB;obtain⟨h1,h2⟩:=mem_filter.1 MB;simp only[FJ,Bool.not_eq_true',decide_eq_false_iff_not,ar.zero];intro ht;have:e'=e:=hA.wz.inj ar h1 he ht;rw[this]at h2;exact h (dm.1 h2).symm
   refine ab.mk (λh0=>?_) (λh0=>?_)
   ·have tI:bU au aD e.tag z.2.2=[]:=by
     refine List.eq_nil_of_length_eq_zero ?_;have:((((bU au aD e.tag z.2.2).length:Nat):Int) == 0)=true:=h0;simpa using this
    refine⟨_,h5.rd 2 rfl (by simp),?_⟩;have h6:Ow (RI.cq x.id (ids.map pd)::Pt n 116 x.pv::bA x.al es ms::((A.map dQ++B.map dQ)++(RT.At x.el (bU au aD e.tag es)::L))) u5:=h5.drop;have aht:bU fM jM e.id ids=A++B:=by
     obtain⟨A',B',e1,e2,_⟩:=hI.up.at_ bB Py;have e3:bU fM jM e.id ids=A'++B':=by rw[<- Fj];exact e2
     have yB:∀y,y∈A++B↔y∈A'++B':=λy=>by
      rw[<- e3,fu bB];have hu:=hI.up;rw[eA]at hu;constructor
      ·intro hyA;refine⟨by rw[eA];rcases mem_append.1 hyA with h|h<;>simp[h],λh=>?_⟩;have hyz:y=z:=hI.up.inj bB (by rw[eA];rcases mem_append.1 hyA with h|h<;>simp[h]) Py (by rw[h];exact Fj.symm);subst hyz;rcases mem_append.1 hyA with h|h
       ·have:=(pairwise_append.1 hu).2.2 y h y (by simp);exact absurd this (by rw[bB.self];omega)
       ·have:=(List.pairwise_cons.1 (pairwise_append.1 hu).2.1).1 y h;exact absurd this (by rw[bB.self];omega)
      ·rintro⟨h1,h2⟩;rw[eA,mem_append,mem_cons]at h1;rcases h1 with h|h|h
       ·simp[h]
       ·rw[h]at h2;exact absurd Fj h2
       ·simp[h]
     have huA:bY fM jM (A++B):=List.Pairwise.sublist (by rw[eA];exact(List.sublist_cons_self z B).append_left A) hI.up;have agN:bY fM jM (A'++B'):=by rw[<- e3];exact hI.up.del _
     rw[e3];exact(bY.ext bB huA agN yB).symm
    refine RI.oO h6 hI.u (by simp;omega) e.id (λy2 u6 Fk h7=>⟨_,_,rfl,bU fM jM e.id ids,?_,?_⟩) (λu6 Fk h7=>?_)
    ·refine ji.mk2 (hI.up.del _) (λy hy=>?_) (λe' MB=>?_) (λy hy=>?_)
     ·obtain⟨Mo,Fk⟩:=(fu bB).1 hy;have:=adV y Mo;unfold nD at this;rw[if_neg (show ¬y.1=e.id from Fk)]at this;exact this
     ·obtain⟨h1,h2⟩:=(fu ar).1 MB;obtain⟨y,hy,hye⟩:=hI.one e' h1;refine⟨y,(fu bB).2 ⟨hy,λh=>?_⟩,hye⟩;have hyz:y=z:=hI.up.inj bB hy Py (by rw[h];exact Fj.symm);have h3:e'∈bU au aD e.tag z.2.2:=by
       refine(fu ar).2 ⟨?_,h2⟩;rw[hI.has z Py,<- hyz];exact mem_filter.2 ⟨h1,by rw[hye];exact Aa _⟩
      rw[tI]at h3;cases h3
     ·exact hI.some_ y ((fu bB).1 hy).1
    ·have e4:bU RI.ck RI.key (RI.key (e.id,RI.z)) (ids.map pd)=(bU fM jM e.id ids).map pd:=By;rw[e4]at h7;refine ak.Kj ?_;rw[aht]at h7 |-;rw[map_append (f:=dQ)];exact h7
    ·exfalso;rw[KE,hz]at Fk;cases Fk
   ·have aZ:bU au aD e.tag z.2.2≠[]:=by
     intro h;have:((((bU au aD e.tag z.2.2).length:Nat):Int) == 0)=false:=h0;rw[h]at this;cases this
    refine⟨ids.map (nD e),?_,?_⟩
    ·refine ji.mk2 (bY.map (f:=nD e) (by rw[show(λy=>jM (nD e y))=jM from funext λy=>(Au e y).1];exact hI.up)) (λy hy=>?_) (λe' MB=>?_) (λy hy=>?_)
     ·obtain⟨y,Kk,rfl⟩:=mem_map.1 hy;rw[(Au e y).1];exact adV y Kk
     ·obtain⟨y,hy,hye⟩:=hI.one e' ((fu ar).1 MB).1;exact⟨nD e y,mem_map_of_mem hy,(Au e y).1.trans hye⟩
     ·obtain⟨y,Kk,rfl⟩:=mem_map.1 hy;by_cases h:y.1=e.id
      ·have hyz:y=z:=hI.up.inj bB Kk Py (by show y.1=z.1;rw[h,Fj]);subst hyz;unfold nD;rw[if_pos h];exact aZ
      ·unfold nD;rw[if_neg h];exact hI.some_ y Kk
    ·refine ak.Kj ?_;rw[UI,RX,map_append,map_cons,haz];exact Ow.qa (P:=[RI.cq x.id (ids.map pd),Pt n 116 x.pv,bA x.al es ms]) h5
  ·rintro _ u5 ⟨iK,dK,h5⟩;refine⟨_,aI (ak.zb (x:=x) (es:=es) (ms:=ms) (ids:=iK) h5 (by simp)) (by simp),?_⟩;refine aaJ (ak.alpha h5) hA e.tag (λhs=>by rw[Sb]at hs;cases hs) λe2 he2 u6 f h6=>⟨_,_,_,rfl,?_⟩;rw[Sb]at he2;cases he2;refine hk (ms.map (pt e.tag)) iK f u6 (hA.pt e.tag) dK (fD.map λy=>⟨rfl,rfl,rfl⟩) ?_;exact ak.back h6
 ·exfalso;rw[KE]at hy;obtain⟨y,Mo,Fk⟩:=hI.one e he;exact(bx bB).1 (map_none hy) y Mo Fk
end
def vV(es add:List aj)(drop:List Int)(pK:List aj):Prop:=bY au aD pK/\∀e,e∈pK↔(e∈add\/(e∈es/\e.tag∉drop))
theorem vV.uniq{es add:List aj}{drop:List Int}{a b:List aj}(h:vV es add drop a)(k:vV es add drop b):a=b:=bY.ext ar h.1 k.1 λe=>(h.2 e).trans (k.2 e).symm
def vz(add:List aj):Prop:=∀e∈add,kp e=true/\1<=e.tag
def eW(es:List aj)(drop:List Int):Prop:=drop.Nodup/\∀t∈drop,∃e∈es,e.tag=t
def eN(es add:List aj)(drop:List Int):Prop:=(add.map aD).Nodup/\∀e∈add,(∃e'∈es,e'.tag=e.tag)->e.tag∈drop
inductive mj(B M:Int)(es:List aj)(ps:List Prod)(add:List aj)(drop:List Int):Int->List aj->Prop
 |form (h:¬vz add):mj B M es ps add drop 9 es
 |none (h:vz add) (h2:¬eW es drop):mj B M es ps add drop 4 es
 |there (h:vz add) (h2:eW es drop) (h3:¬eN es add drop):mj B M es ps add drop 3 es
 |dO (h:vz add) (h2:eW es drop) (h3:eN es add drop) (pK:List aj) (h4:vV es add drop pK) (h5:∃q∈ps,dz B pK q.conds):mj B M es ps add drop 25 es
 |eb (h:vz add) (h2:eW es drop) (h3:eN es add drop) (pK:List aj) (h4:vV es add drop pK) (h5:¬ ∃q∈ps,dz B pK q.conds) (h6:M<((cW pK ps:Nat):Int)):mj B M es ps add drop 26 es
 |ok (h:vz add) (h2:eW es drop) (h3:eN es add drop) (pK:List aj) (h4:vV es add drop pK) (h5:¬ ∃q∈ps,dz B pK q.conds) (h6:((cW pK ps:Nat):Int)<=M):mj B M es ps add drop 0 pK
def aJ(O es:List aj):List aj:=O.foldl (λl e=>bU au aD e.tag l) es
def ch(A es:List aj):List aj:=A.foldl (λl e=>aY au aD e l) es
theorem gE{O:List aj}{k:Nat}(hk:k<O.length)(es:List aj):aJ (O.take (k+1)) es=bU au aD O[k].tag (aJ (O.take k) es):=by
 unfold aJ;rw[take_add_one,getElem?_eq_getElem hk,List.foldl_append];rfl
theorem iD{A:List aj}{k:Nat}(hk:k<A.length)(es:List aj):ch (A.take (k+1)) es=aY au aD A[k] (ch (A.take k) es):=by
 unfold ch;rw[take_add_one,getElem?_eq_getElem hk,List.foldl_append];rfl
theorem lU:∀(O:List aj) {es:List aj},bY au aD es->bY au aD (aJ O es)
 |[],_,h=>h
 |o::O,_,h=>lU O (h.del _)
theorem lA:∀(A:List aj) {es:List aj},bY au aD es->bY au aD (ch A es)
 |[],_,h=>h
 |a::A,_,h=>lA A (h.ins ar a)
theorem db:∀{O es:List aj} {e:aj},e∈aJ O es↔e∈es/\∀o∈O,e.tag≠o.tag
 |[],es,e=>by simp[aJ]
 |o::O,es,e=>by
  show e∈aJ O (bU au aD o.tag es)↔_
  rw[db,fu ar]
  constructor
  ·rintro⟨⟨h1,h2⟩,h3⟩
   refine⟨h1,λo' ho=>?_⟩
   rcases mem_cons.1 ho with rfl|ho
   ·exact h2
   ·exact h3 o' ho
  ·rintro⟨h1,h2⟩
   exact⟨⟨h1,h2 o (by simp)⟩,λo' ho=>h2 o' (by simp[ho])⟩
theorem fG:∀{A es:List aj} {e:aj},(A.map aD).Nodup->(∀a∈A,∀y∈es,y.tag≠a.tag)->(e∈ch A es↔e∈A\/e∈es)
 |[],es,e,_,_=>by simp[ch]
 |a::A,es,e,hn,hd=>by
  rw[map_cons,nodup_cons]at hn
  show e∈ch A (aY au aD a es)↔_
  have hd2:∀b∈A,∀y∈aY au aD a es,y.tag≠b.tag:=λb hb y hy=>by
   rcases(bg ar).1 hy with rfl|⟨h,_⟩
   ·intro e;exact hn.1 (mem_map.2 ⟨b,hb,e.symm⟩)
   ·exact hd b (by simp[hb]) y h
  rw[fG hn.2 hd2,bg ar,mem_cons];constructor
  ·rintro(h|rfl|⟨h,_⟩)
   ·exact .inl (.inr h)
   ·exact .inl (.inl rfl)
   ·exact .inr h
  ·rintro((rfl|h)|h)
   ·exact .inr (.inl rfl)
   ·exact .inl h
   ·exact .inr (.inr ⟨h,hd a (by simp) e h⟩)
theorem Oo{es:List aj}{e:aj}:(aY au aD e es).length<=es.length+1:=vo
theorem oR:∀(A:List aj) (es:List aj),(ch A es).length<=es.length+A.length
 |[],_=>by simp[ch]
 |a::A,es=>by
  show(ch A (aY au aD a es)).length<=_
  have h1:=oR A (aY au aD a es)
  have h2:=Oo (es:=es) (e:=a);simp only[length_cons];omega
theorem qR:∀(O:List aj) (es:List aj),(aJ O es).length<=es.length
 |[],_=>by simp[aJ]
 |o::O,es=>by
  show(aJ O (bU au aD o.tag es)).length<=_
  have h1:=qR O (bU au aD o.tag es)
  have h2:(bU au aD o.tag es).length<=es.length:=vI;omega
structure Sets(es add:List aj)(drop:List Int)(O A:List aj):Prop where
 uO:bY au aD O
 mO:∀e,e∈O↔e∈es/\e.tag∈drop
 uA:bY au aD A
 mA:∀e,e∈A↔e∈add
theorem jy{A:List aj}(h:bY au aD A):(A.map aD).Nodup:=by
 have h1:(A.map aD).Pairwise λa b=>au a b<0:=by rw[List.pairwise_map];exact h
 refine h1.imp λ{a b} xw e=>?_;rw[e]at xw;exact absurd xw (by rw[ar.self b];omega)
section
variable {es add O A:List aj} {drop:List Int}
theorem Sets.sep(h:Sets es add drop O A)(hu:bY au aD es)(ha:eN es add drop):∀a∈A,∀y∈aJ O es,y.tag≠a.tag:=λa haA y hy e=>by
 obtain⟨h1,h2⟩:=db.1 hy;have:=ha.2 a ((h.mA a).1 haA) ⟨y,h1,e⟩;exact h2 y ((h.mO y).2 ⟨h1,by rw[e];exact this⟩) rfl
theorem Sets.new(h:Sets es add drop O A)(hu:bY au aD es)(hd:eW es drop)(ha:eN es add drop):vV es add drop (ch A (aJ O es)):=by
 refine⟨lA _ (lU _ hu),λe=>?_⟩;rw[fG (jy h.uA) (h.sep hu ha),h.mA,db];constructor
 ·rintro(h1|⟨h1,h2⟩)
  ·exact .inl h1
  ·exact .inr ⟨h1,λh3=>h2 e ((h.mO e).2 ⟨h1,h3⟩) rfl⟩
 ·rintro(h1|⟨h1,h2⟩)
  ·exact .inl h1
  ·refine .inr ⟨h1,λo ho e'=>?_⟩;exact h2 (e'▸((h.mO o).1 ho).2)
theorem Sets.fresh(h:Sets es add drop O A)(hu:bY au aD es)(ha:eN es add drop){k:Nat}(hk:k<A.length):aL au aD A[k].tag (ch (A.take k) (aJ O es))=none:=by
 refine(bx ar).2 λy hy e=>?_;have e:y.tag=A[k].tag:=e;have jV:∀a∈A.take k,a∈A:=λa ha=>mem_of_mem_take ha;rcases(fG (jy (List.Pairwise.sublist (List.take_sublist _ _) h.uA)) (λa ha'=>h.sep hu ha a (jV a ha'))).1 hy with h1|h1
 ·obtain⟨j,hj,rfl⟩:=mem_iff_getElem.1 h1;rw[getElem_take]at e;simp only[length_take]at hj;have:=List.pairwise_iff_getElem.1 h.uA j k (by omega) hk (by omega);have:=vJ.1 this;simp only[aD]at this;omega
 ·exact h.sep hu ha A[k] (getElem_mem hk) y h1 e
theorem Sets.back(h:Sets es add drop O A)(hu:bY au aD es)(ha:eN es add drop):ch O (aJ A (ch A (aJ O es)))=es:=by
 have hm:∀y,y∈aJ A (ch A (aJ O es))↔y∈aJ O es:=λy=>by
  rw[db,fG (jy h.uA) (h.sep hu ha)];constructor
  ·rintro⟨h1|h1,h2⟩
   ·exact absurd rfl (h2 y h1)
   ·exact h1
  ·intro h1;exact⟨.inr h1,λa haA=>h.sep hu ha a haA y h1⟩
 have hs:∀o∈O,∀y∈aJ A (ch A (aJ O es)),y.tag≠o.tag:=λo ho y hy=>(db.1 ((hm y).1 hy)).2 o ho;refine bY.ext ar (lA _ (lU _ (lA _ (lU _ hu)))) hu λy=>?_;rw[fG (jy h.uO) hs,hm,db];constructor
 ·rintro(h1|⟨h1,_⟩)
  ·exact((h.mO y).1 h1).1
  ·exact h1
 ·intro h1;by_cases hO:y∈O
  ·exact .inl hO
  ·refine .inr ⟨h1,λo ho e=>hO ?_⟩;have:=hu.inj ar h1 ((h.mO o).1 ho).1 e;rw[this];exact ho
theorem Sets.aaa(h:Sets es add drop O A)(hu:bY au aD es)(ha:eN es add drop){k:Nat}(hk:k<O.length):aL au aD O[k].tag (ch (O.take k) (aJ A (ch A (aJ O es))))=none:=by
 refine(bx ar).2 λy hy e=>?_;have e:y.tag=O[k].tag:=e;have hm:∀y,y∈aJ A (ch A (aJ O es))->y∈aJ O es:=λy hy=>by
  obtain⟨h1,h2⟩:=db.1 hy;rcases(fG (jy h.uA) (h.sep hu ha)).1 h1 with h3|h3
  ·exact absurd rfl (h2 y h3)
  ·exact h3
 have hs:∀o∈O.take k,∀y∈aJ A (ch A (aJ O es)),y.tag≠o.tag:=λo ho y hy=>(db.1 (hm y hy)).2 o (mem_of_mem_take ho);rcases(fG (jy (List.Pairwise.sublist (List.take_sublist _ _) h.uO)) hs).1 hy with h1|h1
 ·obtain⟨j,hj,rfl⟩:=mem_iff_getElem.1 h1;rw[getElem_take]at e;simp only[length_take]at hj;have:=List.pairwise_iff_getElem.1 h.uO j k (by omega) hk (by omega);have:=vJ.1 this;simp only[aD]at this;omega
 ·exact(db.1 (hm y h1)).2 O[k] (getElem_mem hk) e
theorem Sets.loc(h:Sets es add drop O A)(hu:bY au aD es)(ha:eN es add drop){p:aj->Bool}(h1:∀o∈O,p o=false)(h2:∀a∈A,p a=false):es.filter p=(ch A (aJ O es)).filter p:=by
 refine bY.ext ar (hu.filter _) ((lA _ (lU _ hu)).filter _) λy=>?_;rw[mem_filter,mem_filter,fG (jy h.uA) (h.sep hu ha),db];constructor
 ·rintro⟨g1,g2⟩;refine⟨.inr ⟨g1,λo ho e=>?_⟩,g2⟩;have:=hu.inj ar g1 ((h.mO o).1 ho).1 e;rw[this,h1 o ho]at g2;cases g2
 ·rintro⟨g1|⟨g1,_⟩,g2⟩
  ·rw[h2 y g1]at g2;cases g2
  ·exact⟨g1,g2⟩
end
def aaZ(ms:dj)(S:List RN.El)(l:List aj):Prop:=∀y∈ms,¬Oq S y.1->∀e∈l,bf y.2.c e=false
theorem DS{ms cr:dj}(hs:fD ms cr)(hu:bY au bO ms)(gp:bY au bO cr){y:Int×dZ}(hy:y∈ms){e:aj}(hm:bf y.2.c e=true):y.1∈eF e cr:=by
 have h1:aL au bO y.1 ms=some y:=(a_ ar hu).2 ⟨hy,rfl⟩;have h2:=hs y.1;rw[h1]at h2;cases hg:aL au bO y.1 cr with
 |none=>rw[hg]at h2;cases h2
 |some z=>
  rw[hg]at h2;simp only[Option.map_some,Option.some.injEq,Prod.mk.injEq]at h2;obtain⟨hz,Fj⟩:=(a_ ar gp).1 hg;exact mem_map.2 ⟨z,mem_filter.2 ⟨hz,by rw[h2.1];exact hm⟩,Fj⟩
set_option maxRecDepth 100000
theorem xy{l:List aj}(hu:bY au aD l){t:Int}:(aL au aD t l).isSome=true↔∃e∈l,e.tag=t:=by
 constructor
 ·intro h;obtain⟨e,he⟩:=Option.isSome_iff_exists.1 h;obtain⟨h1,h2⟩:=(a_ ar hu).1 he;exact⟨e,h1,h2⟩
 ·rintro⟨e,h1,h2⟩;rw[(a_ ar hu).2 ⟨h1,h2⟩];rfl
theorem rK{l:List aj}{t:Int}:aL au aD t l=none↔∀e∈l,e.tag≠t:=bx ar
theorem AJ{α:Type}{l:List α}{k:Nat}(hk:k<l.length)(h:(l.take k).Nodup)(hn:l[k]∉l.take k):(l.take (k+1)).Nodup:=by
 rw[take_add_one,getElem?_eq_getElem hk];exact nodup_append.2 ⟨h,by simp,λa ha b hb e=>by simp at hb;subst e hb;exact hn ha⟩
theorem eB{α:Type}{l:List α}{k:Nat}(hk:k<l.length){a:α}:a∈l.take (k+1)↔a∈l.take k\/a=l[k]:=by
 rw[take_add_one,getElem?_eq_getElem hk,mem_append];simp
section
variable {n:Nat} {x:NC} {es:List aj} {ps:List Prod} {w:Nat}
theorem H_{bm:Nat}{S0:List RN.El}{l:List Int}{Jo:Nat}{Pre:List aX}{L:List aX}{u:Mem}{R:Mem->Prop}(hl:∀j∈l,-1<=j/\j<1000000)(sF:l.length<=1000000)(hS0:bY RN.ck RN.key S0)(hb:S0.length+l.length<=900000000)
  (hO:Ow (RN.At bm S0::Pt Jo 156 [pP bm 0]::L) u)
  (hk:∀S u',bY RN.ck RN.key S->S.length<=S0.length+l.length->(∀s,Oq S0 s->Oq S s)->(∀j∈l,Oq S j)->Ow (RN.At bm S::Pt Jo 156 [pP bm 0]::L) u'->R u'):
  ao (α:=Int) (λYQ s_3 Yj=>
         ab (decide ((s_3:Int)<((List.length (l.map gn):Nat):Int)))
         ((0:Int)<=s_3/\∃(acA:List PV),(l.map gn)[Int.toNat s_3]?=some acA/\
          ∃(ab1:Int),aE acA 0 1=some [(pI ab1)]/\
          ∃(ab0:Option Addr),ay Yj Jo 0 1=some [(.raw (.pointer ab0))]/\
          aa prog 79 [(.raw (.pointer ab0)),(pI ab1)] Yj λaf8 af_=>
          ∃(af1:Bool),af8=(pB af1)/\
          YQ (wrap .i64 (s_3+(1))) af_)
         (R Yj)) 0 u:=by
 refine ao.each (n:=l.length) (by omega) (λk u=>∃S,(bY RN.ck RN.key S/\S.length<=S0.length+k/\(∀s,Oq S0 s->Oq S s)/\(∀j∈l.take k,Oq S j))/\Ow (RN.At bm S::Pt Jo 156 [pP bm 0]::L) u) ⟨S0,⟨hS0,by omega,λs h=>h,by simp⟩,hO⟩ ?_ ?_
 ·rintro k u next eT ⟨S,⟨hS,XF,h1,h2⟩,h3⟩ aw
  have hj:=hl _ (getElem_mem eT);refine ab.t (by simpa using eT) ⟨by omega,_,tx eT,_,rfl,_,h3.rd 1 rfl (by simp),?_⟩;refine RN.fV (l:=S) h3 hS (by omega) ⟨l[k],hj⟩ λu2 h4=>⟨_,rfl,aw _ ⟨_,⟨hS.put RN.hc _,?_,?_,?_⟩,h4⟩⟩
  ·have:=Ax (ck:=RN.ck) (key:=RN.key) (x:=(⟨l[k],hj⟩:RN.El)) (L:=S);omega
  ·rintro s hs;obtain⟨y,hy,rfl⟩:=h1 s hs;refine⟨y,?_,rfl⟩;unfold dw;split
   ·exact hy
   ·rename_i hn;have Xq:aL RN.ck RN.key (RN.key (⟨l[k],hj⟩:RN.El)) S=none:=by
     cases hg:aL RN.ck RN.key (RN.key (⟨l[k],hj⟩:RN.El)) S with
     |none=>rfl
     |some z=>rw[hg]at hn;exact absurd rfl hn
    exact(bg RN.hc).2 (.inr ⟨hy,(bx RN.hc).1 Xq y hy⟩)
  ·intro j Ce;have YI:∀y∈S,y∈dw RN.ck RN.key (⟨l[k],hj⟩:RN.El) S:=λy hy=>by
    unfold dw;split
    ·exact hy
    ·rename_i hn;have Xq:aL RN.ck RN.key (RN.key (⟨l[k],hj⟩:RN.El)) S=none:=by
      cases hg:aL RN.ck RN.key (RN.key (⟨l[k],hj⟩:RN.El)) S with
      |none=>rfl
      |some z=>rw[hg]at hn;exact absurd rfl hn
     exact(bg RN.hc).2 (.inr ⟨hy,(bx RN.hc).1 Xq y hy⟩)
   rcases(eB eT).1 Ce with Ce|rfl
   ·obtain⟨y,hy,e⟩:=h2 j Ce;exact⟨y,YI y hy,e⟩
   ·unfold dw;split
    ·rename_i hs;obtain⟨y,hy⟩:=Option.isSome_iff_exists.1 hs;obtain⟨a1,a2⟩:=(a_ RN.hc hS).1 hy;exact⟨y,a1,a2⟩
    ·exact⟨_,(bg RN.hc).2 (.inl rfl),rfl⟩
 ·rintro u next ⟨S,⟨hS,XF,h1,h2⟩,h3⟩
  rw[take_length]at h2;exact ab.f (by simp) (hk S u hS XF h1 h2 h3)
theorem HZ{e:aj}{ms:dj}(hA:dx es ms):∀j∈eF e ms,-1<=j/\j<1000000:=λj hj=>by
 obtain⟨y,hy,rfl⟩:=mem_map.1 hj;have:=hA.num y (mem_filter.1 hy).1;exact⟨by omega,this.2⟩
theorem U_{T:Tree}{B:Int}{ms:dj}{tk:Path->List bR}{ct:Path->List Nat}(h:jq B T es ms tk ct):∀p∈T.D,∀j∈T.M p,-1<=j/\j<1000000:=λp hp j hj=>by
 refine⟨h.tree.mge p hp j hj,?_⟩;by_cases h0:0<=j
 ·have h1:=h.use.use j h0;have h2:0<(T.D.flatMap T.M).count j:=List.count_pos_iff.2 (List.mem_flatMap.2 ⟨p,hp,hj⟩);unfold fQ at h1;cases hg:aL au bO j ms with
  |none=>
   rw[hg]at h1;have h1:(0:Int)=_:=h1;omega
  |some y=>
   obtain⟨h3,h4⟩:=(a_ ar h.use.inv.ni).1 hg;have h4:y.1=j:=h4;have:=(h.use.inv.num y h3).2;omega
 ·omega
theorem wE.zP{T:Tree}{ms cr:dj}{ids iK:pQ}{fs:List aj}{tk wA:Path->List bR}{ct yO:Path->List Nat}{W:Path->Prop}(h:wE x T es ms ids tk ct ps w W)(hA:dx fs cr)(hI:ji fs iK)(hs:fD ms cr)(gX:WM T x.T fs wA yO)(Bg:∀e∈fs,1<=e.tag/\e.tag<9223372036854775808):wE x T fs cr iK wA yO ps w W:=
 ⟨⟨h.core.tree,hs.use h.core.use hA,λp c hp=>Bs hs.mem c 0 (h.core.fit p c hp),gX⟩,h.HA,hI,h.root,h.tb,h.mb,h.Nn,h.Ji,h.pD,h.ends,Bg,h.LS,h.dl⟩
theorem QT{T:Tree}{ms:dj}{ids:pQ}{tk:Path->List bR}{ct:Path->List Nat}{fs:List aj}(h:wE x T es ms ids tk ct ps w (λ_=>False)):(∃q c j,q++[c]∈T.D/\x.T<((dB fs c (az fs q) j:Nat):Int))↔∃p∈ps,dz x.T fs p.conds:=by
 constructor
 ·rintro⟨q,c,j,hD,hj⟩;have key:∀(m:Nat) (r:Path),r∈T.D->r≠[]->17-r.length<=m->∃p∈ps,r <+: p.conds:=by
   intro m;induction m with
   |zero=>intro r hr _ hm;have:=h.core.tree.len r hr;omega
   |succ m ih=>
    intro r hr Mq hm;rcases h.HA r hr Mq (λh=>h)with hk|he
    ·cases hK:T.K r with
     |nil=>exact absurd hK hk
     |cons d l=>
      have hd:r++[d]∈T.D:=(h.core.tree.kids r hr d).1 (by rw[hK];simp);obtain⟨p,hp,fS⟩:=ih (r++[d]) hd (by simp) (by simp;omega);exact⟨p,hp,List.IsPrefix.trans (prefix_append _ _) fS⟩
    ·rw[h.ends r hr]at he;obtain⟨p,hp⟩:=List.exists_mem_of_length_pos he;obtain⟨h1,h2⟩:=mem_filter.1 hp;have h2:p.conds=r:=by simpa using h2
     exact⟨p,h1,by rw[h2];exact prefix_refl _⟩
  obtain⟨p,hp,s,hs⟩:=key 17 (q++[c]) hD (by simp) (by omega);have hl:q.length<p.conds.length:=by rw[<- hs];simp
  refine⟨p,hp,q.length,hl,j,?_⟩;have e1:p.conds.take q.length=q:=by rw[<- hs,append_assoc,List.take_left'];rfl
  have e2:p.conds[q.length]=c:=by
   have:p.conds[q.length]?=some c:=by rw[<- hs];simp
   rw[getElem?_eq_getElem hl]at this;simpa using this
  rw[e1,e2];exact hj
 ·rintro⟨p,hp,i,hi,j,hj⟩;refine⟨p.conds.take i,p.conds[i],j,?_,hj⟩;have:p.conds.take (i+1)=p.conds.take i++[p.conds[i]]:=by rw[take_add_one,getElem?_eq_getElem hi];rfl
  rw[<- this];exact h.core.tree.QK (h.pD p hp) (take_prefix _ _)
theorem IC(hw:w<=100)(fl1 fl2:Fl)(add:List aj)(drop:List Int)(hal:add.length<=400)(hdl:drop.length<=400)(PI:es.length+add.length<=900000)(agS:∀e∈add,e.tag<9223372036854775808){L:List aX}{μ:Mem}(hO:Ow (ko n x es ps w::L) μ){K:Kq}
  (hk:∀e pK μ',mj x.T x.M es ps add drop e pK->Ow (ko n x pK ps w::L) μ'->K (pI e) μ'):
  aa prog 33 [pP n 0,.list 12 fl1 (add.map aj.pv),.list 1 fl2 (drop.map gV)] μ K:=by
 obtain⟨T,ms,ids,tk,ct,fr,mn,⟨hR,pH⟩,h1⟩:=ko.open_ hO;obtain⟨ht1,Zd⟩:=hR.tb;obtain⟨yC,rH⟩:=hR.mb;have hA:=hR.core.use.inv;have hI:=hR.ids;have hu:=hA.wz;have hlen:=hA.le;refine we.c λb3 DU=>?_;have O1:Ow (ak n x es ms ids::ca T tk ct fr mn::RP.cq x.pr (ps.map (iP T.B))::RT.At x.el es::Pt b3 45 [pP n 0]::L) _:=Ow.ord [1,1,1,1,0] (h1.new 45 [pP n 0] DU);have Dm:∀{u:Mem} {M:List aX},Ow (ak n x es ms ids::ca T tk ct fr mn::RP.cq x.pr (ps.map (iP T.B))::RT.At x.el es::Pt b3 45 [pP n 0]::M) u->(∀μ,Ow M μ->Ow L μ)->Ow (ko n x es ps w::L) u:=λh hM=>ko.shut hR pH (h.tail λ_ h=>h.tail λ_ h=>h.tail λ_ h=>h.tail λ_ h=>hM _ h.drop);refine ao.dG (n:=add.length) (by omega) (λk s u=>(∀e∈add.take k,kp e=true/\1<=e.tag)/\Ow (ak n x es ms ids::ca T tk ct fr mn::RP.cq x.pr (ps.map (iP T.B))::RT.At x.el es::Pt b3 45 [pP n 0]::L) u) ⟨by simp,O1⟩ ?_ ?_
 ·rintro k s u next eT ⟨hv,h2⟩ aw
  refine ab.t (by simpa using eT) ⟨by omega,_,aH eT,_,_,_,_,_,_,_,_,_,_,_,_,rfl,(OZ add[k]).call ⟨_,rfl,ab.mk (λhb=>?_) (λhb=>ab.mk (λph=>?_) (λph=>aw _ _ ⟨λe he=>?_,h2⟩))⟩⟩
  ·refine hk _ _ _ (.form λhg=>?_) (Dm h2 λ_ h=>h);rw[(hg _ (getElem_mem eT)).1]at hb;cases hb
  ·refine hk _ _ _ (.form λhg=>?_) (Dm h2 λ_ h=>h);have:=(hg _ (getElem_mem eT)).2;have ahR:add[k].tag<1:=by simpa using ph
   omega
  ·rcases(eB eT).1 he with he|rfl
   ·exact hv e he
   ·have ahR:¬add[k].tag<1:=by simpa using ph
    exact⟨nt hb,by omega⟩
 rintro s u next ⟨hv,h2⟩
 rw[take_length]at hv;have gZ:vz add:=hv;refine ab.f (by simp) ?_;clear O1 h1;refine RT.gu h2 .nil [] (by simp) λu1 bo h3=>⟨_,rfl,?_⟩;have h3:Ow (ak n x es ms ids::ca T tk ct fr mn::RP.cq x.pr (ps.map (iP T.B))::RT.At x.el es::Pt b3 45 [pP n 0]::RT.At bo []::L) u1:=Ow.ord [1,1,1,1,1,0] h3;dsimp only;refine ao.dG (n:=drop.length) (by omega) (λk s u=>∃O,(bY au aD O/\(∀e,e∈O↔e∈es/\e.tag∈drop.take k)/\(drop.take k).Nodup/\∀t∈drop.take k,∃e∈es,e.tag=t)/\Ow (ak n x es ms ids::ca T tk ct fr mn::RP.cq x.pr (ps.map (iP T.B))::RT.At x.el es::Pt b3 45 [pP n 0]::RT.At bo O::L) u) ⟨[],⟨Pairwise.nil,by simp,by simp,by simp⟩,h3⟩ ?_ ?_
 ·rintro k s u next eT ⟨O,⟨Ub,So,HW,fT⟩,h4⟩ aw
  have hOl:O.length<=es.length:=by
   have:=jx (jy Ub) (b:=es.map aD) λt ht=>by
    obtain⟨e,he,rfl⟩:=mem_map.1 ht;exact mem_map_of_mem ((So e).1 he).1
   simpa using this
  have bad:¬(drop[k]∉drop.take k/\∃e∈es,e.tag=drop[k])->¬eW es drop:=λhb hd=>hb ⟨λhm=>by
   obtain⟨j,hj,e⟩:=mem_iff_getElem.1 hm
   rw[getElem_take]at e
   rw[length_take]at hj
   have:=(List.getElem_inj hd.1 (h₀:=by omega) (h₁:=eT)).1 e
   omega,hd.2 _ (getElem_mem eT)⟩
  refine ab.t (by simpa using eT) ⟨by omega,_,tx eT,_,rfl,_,h4.rd 4 rfl (by simp),?_⟩;refine XY hu (by omega) drop[k] (Ow.ord [0,2] h4) (λe he=>⟨_,_,_,_,_,_,_,_,_,_,_,_,_,rfl,ab.f rfl ?_⟩) (λhn=>⟨_,_,_,_,_,_,_,_,_,_,_,_,_,rfl,ab.t rfl ?_⟩)
  ·obtain⟨OD,het⟩:=(a_ ar hu).1 he;have het:e.tag=drop[k]:=het;refine RT.fV (l:=O) (Ow.ord [5] h4) Ub (by omega) e λu2 h5=>⟨_,rfl,?_⟩;have h5':Ow (ak n x es ms ids::ca T tk ct fr mn::RP.cq x.pr (ps.map (iP T.B))::RT.At x.el es::Pt b3 45 [pP n 0]::RT.At bo (dw RT.ck RT.key e O)::L) u2:=Ow.ord [1,1,1,1,1,0] h5;refine ab.mk (λhb=>?_) (λhb=>?_)
   ·refine hk _ _ _ (.none gZ (bad λhh=>?_)) (Dm h5' λ_ h=>h.drop);have hs:(aL au aD e.tag O).isSome=true:=by
     have:(aL au aD e.tag O).isNone=false:=nb hb;cases hg:aL au aD e.tag O with
     |none=>rw[hg]at this;cases this
     |some z=>rfl
    obtain⟨z,RA,hz2⟩:=(xy Ub).1 hs;have:=((So z).1 RA).2;rw[hz2,het]at this;exact hh.1 this
   ·have hn:aL au aD e.tag O=none:=by
     have:(aL au aD e.tag O).isNone=true:=nt hb;cases hg:aL au aD e.tag O with
     |none=>rfl
     |some z=>rw[hg]at this;cases this
    have CE:dw RT.ck RT.key e O=aY au aD e O:=by
     rw[dw,show aL RT.ck RT.key (RT.key e) O=none from hn];rfl
    rw[CE]at h5';have hnm:drop[k]∉drop.take k:=λhm=>by
     have:e∈O:=(So e).2 ⟨OD,by rw[het];exact hm⟩;exact rK.1 hn e this rfl
    refine aw _ _ ⟨_,⟨Ub.ins ar e,λy=>?_,AJ eT HW hnm,λt ht=>?_⟩,h5'⟩
    ·rw[bg ar,So,eB eT];constructor
     ·rintro(rfl|⟨⟨a1,a2⟩,_⟩)
      ·exact⟨OD,.inr het⟩
      ·exact⟨a1,.inl a2⟩
     ·rintro⟨a1,a2|a2⟩
      ·refine .inr ⟨⟨a1,a2⟩,λe'=>hnm ?_⟩;have e':y.tag=e.tag:=e';rw[<- het,<- e'];exact a2
      ·exact .inl (hu.inj ar a1 OD (by show y.tag=e.tag;rw[a2,het]))
    ·rcases(eB eT).1 ht with ht|rfl
     ·exact fT t ht
     ·exact⟨e,OD,het⟩
  ·refine hk _ _ _ (.none gZ (bad λhh=>?_)) (Dm h4 λ_ h=>h.drop);obtain⟨e,he,het⟩:=hh.2;exact rK.1 hn e he het
 rintro s u next ⟨O,⟨Ub,So,HW,fT⟩,h4⟩
 rw[take_length]at So HW fT;have xv:eW es drop:=⟨HW,fT⟩;refine ab.f (by simp) ?_;have hOl:O.length<=drop.length:=by
  have:=jx (jy Ub) (b:=drop) λt ht=>by
   obtain⟨e,he,rfl⟩:=mem_map.1 ht;exact((So e).1 he).2
  simpa using this
 clear h3;refine RT.gu h4 .nil [] (by simp) λu1 bi h5=>⟨_,rfl,?_⟩;have h5:Ow (ak n x es ms ids::ca T tk ct fr mn::RP.cq x.pr (ps.map (iP T.B))::RT.At x.el es::Pt b3 45 [pP n 0]::RT.At bo O::RT.At bi []::L) u1:=Ow.ord [1,1,1,1,1,1,0] h5;dsimp only;refine ao.dG (n:=add.length) (by omega) (λk s u=>∃A,(bY au aD A/\(∀e,e∈A↔e∈add.take k)/\((add.take k).map aD).Nodup/\∀e∈add.take k,(∃e'∈es,e'.tag=e.tag)->e.tag∈drop)/\Ow (ak n x es ms ids::ca T tk ct fr mn::RP.cq x.pr (ps.map (iP T.B))::RT.At x.el es::Pt b3 45 [pP n 0]::RT.At bo O::RT.At bi A::L) u) ⟨[],⟨Pairwise.nil,by simp,by simp,by simp⟩,h5⟩ ?_ ?_
 ·rintro k s u next eT ⟨A,⟨XJ,VV,RV,VI⟩,h6⟩ aw
  have hAl:A.length<=add.length:=by
   have:=jx (jy XJ) (b:=add.map aD) λt ht=>by
    obtain⟨e,he,rfl⟩:=mem_map.1 ht;exact mem_map_of_mem (mem_of_mem_take ((VV e).1 he))
   simpa using this
  have aea:(aL RT.ck RT.key (RT.key add[k]) O).isSome=true↔(∃e'∈es,e'.tag=add[k].tag)/\add[k].tag∈drop:=by
   rw[show aL RT.ck RT.key (RT.key add[k]) O=aL au aD add[k].tag O from rfl,xy Ub];constructor
   ·rintro⟨e,he,het⟩;obtain⟨a1,a2⟩:=(So e).1 he;exact⟨⟨e,a1,het⟩,by rw[<- het];exact a2⟩
   ·rintro⟨⟨e,he,het⟩,hd⟩;exact⟨e,(So e).2 ⟨he,by rw[het];exact hd⟩,het⟩
  have bad:¬(add[k].tag∉(add.take k).map aD/\((∃e'∈es,e'.tag=add[k].tag)->add[k].tag∈drop))->¬eN es add drop:=λhb hd=>hb ⟨λhm=>by
   obtain⟨e,he,het⟩:=mem_map.1 hm
   obtain⟨j,hj,rfl⟩:=mem_iff_getElem.1 he
   rw[getElem_take]at het
   rw[length_take]at hj
   have:=(List.getElem_inj hd.1 (i:=j) (j:=k) (h₀:=by simp;omega) (h₁:=by simpa using eT)).1 (by simpa[aD]using het)
   omega,hd.2 _ (getElem_mem eT)⟩
  have JR:((∃e'∈es,e'.tag=add[k].tag)->add[k].tag∈drop)->∀{u:Mem} {G:Mem->Prop},Ow (ak n x es ms ids::ca T tk ct fr mn::RP.cq x.pr (ps.map (iP T.B))::RT.At x.el es::Pt b3 45 [pP n 0]::RT.At bo O::RT.At bi A::L) u->aa prog 74 [pP bi 0,.agg add[k].pv] u λv_8 Np=>∃(WR:Bool),v_8=(pB WR)/\ab (!WR) (K (pI (3)) Np) (next (s,(wrap .i64 ((k:Int)+(1)))) Np):=λwC {u G} h7=>by
   refine RT.fV (l:=A) (Ow.ord [6] h7) XJ (by omega) add[k] λu2 h8=>⟨_,rfl,?_⟩;have h8':Ow (ak n x es ms ids::ca T tk ct fr mn::RP.cq x.pr (ps.map (iP T.B))::RT.At x.el es::Pt b3 45 [pP n 0]::RT.At bo O::RT.At bi (dw RT.ck RT.key add[k] A)::L) u2:=Ow.ord [1,1,1,1,1,1,0] h8;refine ab.mk (λhb=>?_) (λhb=>?_)
   ·refine hk _ _ _ (.there gZ xv (bad λhh=>hh.1 ?_)) (Dm h8' λ_ h=>h.drop.drop);have hs:(aL au aD add[k].tag A).isSome=true:=by
     have:(aL au aD add[k].tag A).isNone=false:=nb hb;cases hg:aL au aD add[k].tag A with
     |none=>rw[hg]at this;cases this
     |some z=>rfl
    obtain⟨z,RA,hz2⟩:=(xy XJ).1 hs;exact mem_map.2 ⟨z,(VV z).1 RA,hz2⟩
   ·have hn:aL au aD add[k].tag A=none:=by
     have:(aL au aD add[k].tag A).isNone=true:=nt hb;cases hg:aL au aD add[k].tag A with
     |none=>rfl
     |some z=>rw[hg]at this;cases this
    have CE:dw RT.ck RT.key add[k] A=aY au aD add[k] A:=by
     rw[dw,show aL RT.ck RT.key (RT.key add[k]) A=none from hn];rfl
    rw[CE]at h8';have hnm:∀y∈add.take k,y.tag≠add[k].tag:=λy hy=>rK.1 hn y ((VV y).2 hy);refine aw _ _ ⟨_,⟨XJ.ins ar _,λy=>?_,?_,λe he=>?_⟩,h8'⟩
    ·rw[bg ar,VV,eB eT];constructor
     ·rintro(rfl|⟨a1,_⟩)
      ·exact .inr rfl
      ·exact .inl a1
     ·rintro(a1|rfl)
      ·exact .inr ⟨a1,hnm y a1⟩
      ·exact .inl rfl
    ·have hk3:k<(add.map aD).length:=by simpa using eT
     rw[map_take]at RV |-;refine AJ hk3 RV λhm=>?_;rw[<- map_take]at hm;obtain⟨y,hy,hyt⟩:=mem_map.1 hm;rw[getElem_map]at hyt;exact hnm y hy hyt
    ·rcases(eB eT).1 he with he|rfl
     ·exact VI e he
     ·exact wC
  refine ab.t (by simpa using eT) ⟨by omega,_,aH eT,_,_,_,_,_,_,_,_,_,_,_,_,rfl,_,h6.rd 4 rfl (by simp),?_⟩;have place:∀{Kx:Kq},Kx (.aA [pI ((UN RT.ck RT.key (RT.key add[k]) O:Nat):Int),pB (aL RT.ck RT.key (RT.key add[k]) O).isSome]) u->aa prog 75 [pP bo 0,.agg add[k].pv] u Kx:=λhKx=>RT.qV (l:=O) (Ow.ord [5] h6) Ub (by omega) add[k] hKx;refine XY hu (by omega) add[k].tag (Ow.ord [0,2] h6) (λe he=>⟨_,_,_,_,_,_,_,_,_,_,_,_,_,rfl,place ⟨_,_,rfl,ab.t rfl (ab.mk (λhb=>?_) (λhb=>?_))⟩⟩) (λhn=>⟨_,_,_,_,_,_,_,_,_,_,_,_,_,rfl,place ⟨_,_,rfl,ab.f rfl ?_⟩⟩)
  ·obtain⟨OD,het⟩:=(a_ ar hu).1 he;refine hk _ _ _ (.there gZ xv (bad λhh=>?_)) (Dm h6 λ_ h=>h.drop.drop);have:=aea.2 ⟨⟨e,OD,het⟩,hh.2 ⟨e,OD,het⟩⟩;rw[this]at hb;cases hb
  ·exact JR (λ_=>(aea.1 (nt hb)).2) (G:=λ_=>True) h6
  ·exact JR (λ⟨e,he,het⟩=>absurd het (rK.1 hn e he)) (G:=λ_=>True) h6
 rintro s u next ⟨A,⟨XJ,VV,RV,VI⟩,h6⟩
 rw[take_length]at VV RV VI;have yF:eN es add drop:=⟨RV,VI⟩;have hSt:Sets es add drop O A:=⟨Ub,So,XJ,VV⟩;have hAl:A.length<=add.length:=by
  have:=jx (jy XJ) (b:=add.map aD) λt ht=>by
   obtain⟨e,he,rfl⟩:=mem_map.1 ht;exact mem_map_of_mem ((VV e).1 he)
  simpa using this
 refine ab.f (by simp) ?_;clear h5 h4;have ac3:∀{k:Nat} (eT:k<O.length),O[k]∈aJ (O.take k) es:=λ{k} eT=>by
  refine db.2 ⟨((So _).1 (getElem_mem eT)).1,λo ho e=>?_⟩;obtain⟨j,hj,rfl⟩:=mem_iff_getElem.1 ho;rw[getElem_take]at e;simp only[length_take]at hj;have:=List.pairwise_iff_getElem.1 Ub j k (by omega) eT (by omega);have:=vJ.1 this;simp only[aD]at this;omega
 have Xp:=hR.core.acF;have adp:∀{fs:List aj} {cr:dj},fD ms cr->dx fs cr->cr.length<=500000:=λhs yH=>le_trans (hs.use hR.core.use yH).len Xp;refine RN.gu h6 .nil [] (by simp) λu1 bm h7=>⟨_,rfl,λJo ahQ=>?_⟩;refine(h7.new 156 [.raw (.pointer none)] ahQ).st 0 rfl (by simp) λu2 h8=>?_;have h9:Ow (ak n x es ms ids::ca T tk ct fr mn::RP.cq x.pr (ps.map (iP T.B))::RT.At x.el es::Pt b3 45 [pP n 0]::RT.At bo O::RT.At bi A::RN.At bm []::Pt Jo 156 [pP bm 0]::L) u2:=Ow.ord [2,2,2,2,2,2,2,1,0] h8;clear h6 h7 h8;refine(RT.pN bo).call ⟨_,_,_,rfl,?_⟩;refine bu.own (RT.d_ bo O (by omega)) (Ow.ord [5] h9)
  (λk u=>∃cr iK S,(dx (aJ (O.take k) es) cr/\ji (aJ (O.take k) es) iK/\fD ms cr/\bY RN.ck RN.key S/\S.length<=k*500000/\aaZ ms S (O.take k))/\Ow (ak n x (aJ (O.take k) es) cr iK::ca T tk ct fr mn::RP.cq x.pr (ps.map (iP T.B))::RT.At x.el (aJ (O.take k) es)::Pt b3 45 [pP n 0]::RT.At bo O::RT.At bi A::RN.At bm S::Pt Jo 156 [pP bm 0]::L) u)
  (λ_ _=>False) (λk=>eJ.ex λ_=>eJ.ex λ_=>eJ.ex λ_=>eJ.and (eJ.own _)) (λ_ _ _ _ h=>h.elim) (λμ' h'=>⟨ms,ids,[],⟨hA,hI,fD.refl ms,Pairwise.nil,by simp,λy _ _ e he=>by simp at he⟩,?_⟩) ?_ ?_ (λ_ _ h=>h.elim)
 ·have tO:Ow (RT.At bo O::ak n x es ms ids::ca T tk ct fr mn::RP.cq x.pr (ps.map (iP T.B))::RT.At x.el es::Pt b3 45 [pP n 0]::RT.At bi A::RN.At bm []::Pt Jo 156 [pP bm 0]::L) μ':=h';exact Ow.ord [1,1,1,1,1,0] tO
 ·rintro k eT u R ⟨cr,iK,S,⟨yH,dK,hs,hS,XF,hH⟩,tO⟩ bX _;have cj:k<O.length:=by simpa using eT
  rw[getElem_map];refine⟨_,_,_,_,_,_,_,_,_,_,_,_,rfl,_,tO.rd 4 rfl (by simp),?_⟩;refine Te yH dK (ac3 cj) (Ow.ord [0,2] tO) λJj CA f u3 VW yG Cc CL=>⟨_,_,rfl,?_⟩;have sF:=HZ (e:=O[k]) yH;have hhl:=rI O[k] cr;have oK:=adp hs yH;have lS:Ow (RN.At bm S::Pt Jo 156 [pP bm 0]::ak n x (bU au aD O[k].tag (aJ (O.take k) es)) Jj CA::RT.At x.el (bU au aD O[k].tag (aJ (O.take k) es))::ca T tk ct fr mn::RP.cq x.pr (ps.map (iP T.B))::Pt b3 45 [pP n 0]::RT.At bo O::RT.At bi A::L) u3:=Ow.ord [7,7] CL;refine H_ (Pre:=[]) sF (by omega) hS (by omega) lS λS' u4 KC ah2 PG OB Bm=>bX _ ⟨Jj,CA,S',⟨by rw[gE cj];exact VW,by rw[gE cj];exact yG,hs.trans Cc,KC,by omega,λy hy dc e he=>?_⟩,?_⟩
  ·rcases(eB cj).1 he with he|rfl
   ·exact hH y hy (λh=>dc (PG _ h)) e he
   ·cases hm:bf y.2.c O[k]with
    |false=>rfl
    |true=>exact absurd (OB _ (DS hs hA.ni yH.ni hy hm)) dc
  ·rw[gE cj];exact Ow.ord [2,3,3,2,2,2,2,0,0] Bm
 rintro u ⟨HC,iT,S1,⟨Ss,lu,HR,hS1,Sm,hH1⟩,tO⟩;rw[length_map]at Ss lu Sm hH1 tO;rw[take_length]at Ss lu hH1 tO;dsimp only[PK];clear h9;refine(RT.pN bi).call ⟨_,_,_,rfl,?_⟩;have ami:=qR O es;have PJ:ch (A.take 0) (aJ O es)=aJ O es:=by rw[take_zero];rfl
 have ah1:S1.length<=O.length*500000+0*500000:=by rw[Nat.zero_mul,Nat.add_zero];exact Sm
 refine bu.own (RT.d_ bi A (by omega)) (Ow.ord [6] tO)
  (λk u=>∃cr iK S,(dx (ch (A.take k) (aJ O es)) cr/\ji (ch (A.take k) (aJ O es)) iK/\fD ms cr/\bY RN.ck RN.key S/\S.length<=O.length*500000+k*500000/\aaZ ms S O/\aaZ ms S (A.take k))/\Ow (ak n x (ch (A.take k) (aJ O es)) cr iK::ca T tk ct fr mn::RP.cq x.pr (ps.map (iP T.B))::RT.At x.el (ch (A.take k) (aJ O es))::Pt b3 45 [pP n 0]::RT.At bo O::RT.At bi A::RN.At bm S::Pt Jo 156 [pP bm 0]::L) u)
  (λ_ _=>False) (λk=>eJ.ex λ_=>eJ.ex λ_=>eJ.ex λ_=>eJ.and (eJ.own _)) (λ_ _ _ _ h=>h.elim) (λμ' h'=>⟨HC,iT,S1,⟨by rw[PJ];exact Ss,by rw[PJ];exact lu,HR,hS1,ah1,hH1,λy _ _ e he=>by simp at he⟩,?_⟩) ?_ ?_ (λ_ _ h=>h.elim)
 ·have CL:Ow (RT.At bi A::ak n x (aJ O es) HC iT::ca T tk ct fr mn::RP.cq x.pr (ps.map (iP T.B))::RT.At x.el (aJ O es)::Pt b3 45 [pP n 0]::RT.At bo O::RN.At bm S1::Pt Jo 156 [pP bm 0]::L) μ':=h';rw[PJ];exact Ow.ord [1,1,1,1,1,1,0] CL
 ·rintro k eT u R ⟨cr,iK,S,⟨yH,dK,hs,hS,XF,hHO,hH⟩,tO⟩ bX _;have cj:k<A.length:=by simpa using eT
  rw[getElem_map];refine⟨_,_,_,_,_,_,_,_,_,_,_,_,rfl,_,tO.rd 4 rfl (by simp),?_⟩;have ZQ:=oR (A.take k) (aJ O es);rw[length_take]at ZQ;refine XT yH dK (hSt.fresh hu yF cj) (by omega) (Ow.ord [0,2] tO) λJj CA f u3 VW yG Cc CL=>⟨_,_,rfl,?_⟩;have sF:=HZ (e:=A[k]) yH;have hhl:=rI A[k] cr;have oK:=adp hs yH;have lS:Ow (RN.At bm S::Pt Jo 156 [pP bm 0]::ak n x (aY au aD A[k] (ch (A.take k) (aJ O es))) Jj CA::RT.At x.el (aY au aD A[k] (ch (A.take k) (aJ O es)))::ca T tk ct fr mn::RP.cq x.pr (ps.map (iP T.B))::Pt b3 45 [pP n 0]::RT.At bo O::RT.At bi A::L) u3:=Ow.ord [7,7] CL;refine H_ (Pre:=[]) sF (by omega) hS (by omega) lS λS' u4 KC ah2 PG OB Bm=>bX _ ⟨Jj,CA,S',⟨by rw[iD cj];exact VW,by rw[iD cj];exact yG,hs.trans Cc,KC,by omega,λy hy dc e he=>hHO y hy (λh=>dc (PG _ h)) e he,λy hy dc e he=>?_⟩,?_⟩
  ·rcases(eB cj).1 he with he|rfl
   ·exact hH y hy (λh=>dc (PG _ h)) e he
   ·cases hm:bf y.2.c A[k]with
    |false=>rfl
    |true=>exact absurd (OB _ (DS hs hA.ni yH.ni hy hm)) dc
  ·rw[iD cj];exact Ow.ord [2,3,3,2,2,2,2,0,0] Bm
 clear tO Ss lu HR hS1 Sm hH1;rintro u ⟨HC,iT,S1,⟨Ss,lu,HR,hS1,Sm,hHO,hHA⟩,tO⟩;rw[length_map]at Ss lu Sm hHA tO;rw[take_length]at Ss lu hHA tO;dsimp only[PK];have jB:=hSt.new hu xv yF;generalize hfs:ch A (aJ O es)=fs at*
 have Bg:∀e∈fs,1<=e.tag/\e.tag<9223372036854775808:=λe he=>by
  rcases(jB.2 e).1 he with h|⟨h,_⟩
  ·exact⟨(gZ e h).2,agS e h⟩
  ·exact hR.tags e h
 have Zw:∀y∈HC,¬Oq S1 y.1->es.filter (bf y.2.c)=fs.filter (bf y.2.c):=λy hy dc=>by
  have h1:aL au bO y.1 HC=some y:=(a_ ar Ss.ni).2 ⟨hy,rfl⟩;have h2:=HR y.1;rw[h1]at h2;cases hg:aL au bO y.1 ms with
  |none=>rw[hg]at h2;cases h2
  |some z=>
   rw[hg]at h2;simp only[Option.map_some,Option.some.injEq,Prod.mk.injEq]at h2;obtain⟨hz,Fj⟩:=(a_ ar hA.ni).1 hg;have Fj:z.1=y.1:=Fj;rw[h2.1,<- hfs];exact hSt.loc hu yF (hHO z hz (by rw[Fj];exact dc)) (hHA z hz (by rw[Fj];exact dc))
 have RL:=QT (fs:=fs) hR;have Zh:az fs []=az es []:=rfl;have ac1:tk []=az fs []:=hR.core.dO.tok [] hR.core.tree.root;have VB:=hR.core.tree.root;refine⟨λe u=>∃nQ nq,((e=25/\∃q∈ps,dz x.T fs q.conds)\/(e=26/\(¬ ∃q∈ps,dz x.T fs q.conds)/\x.M<((cW fs ps:Nat):Int))\/(e=0/\(¬ ∃q∈ps,dz x.T fs q.conds)/\((cW fs ps:Nat):Int)<=x.M/\∀q∈T.D,q≠[]->nQ q=az fs q/\nq q=mV fs q))/\Ow (ak n x fs HC iT::ca T tk ct nQ nq::RP.cq x.pr (ps.map (iP T.B))::RT.At x.el fs::Pt b3 45 [pP n 0]::RT.At bo O::RT.At bi A::L) u,?_,?_⟩
 ·obtain⟨F,hF⟩:=ca.rd VB (Ow.swap tO);have hF':=hF;rw[<- hR.root]at hF';have hn2:=ak.zb (n:=n) (x:=x) (es:=fs) (ms:=HC) (ids:=iT) tO (by simp);refine⟨_,tO.rd 4 rfl (by simp),_,tO.rd 4 rfl (by simp),?_⟩;dsimp only[nP,nn,aU];refine⟨_,aI hn2 (by simp),_,tO.rd 4 rfl (by simp),?_⟩;dsimp only;refine⟨_,aI hn2 (by simp),?_⟩;dsimp only;refine⟨_,_,aI hF' (by simp),_,tO.rd 8 rfl (by simp),?_⟩;dsimp only[gJ];rw[ac1,hR.root];refine aek hR.core.tree Ss lu ⟨by omega,by omega⟩ hR.core.dO hS1 (by omega) (λp c hp=>Bs HR.mem c 0 (hR.core.fit p c hp)) (U_ hR.core) Zw 17 [] fr mn _ false VB (by simp) (by simp[az]) (λ_=>Zh.symm) (Ow.ord [0,0,5] tO) (λhC u3 CL=>⟨_,rfl,ab.f rfl λYb KA=>?_⟩) (λXx nQ nq u3 CL=>⟨_,rfl,ab.t rfl ⟨nQ,nq,.inl ⟨rfl,RL.1 Xx⟩,?_⟩⟩)
  ·have HU:¬ ∃q∈ps,dz x.T fs q.conds:=λh=>by
    obtain⟨q,c,j,hq,hj⟩:=RL.2 h;have:=hC q c hq nil_prefix j;omega
   have Vv:∀q∈T.D,q≠[]->under (T.K []) [] q=true:=λq hq hq0=>gz.2 ((hR.core.tree.below VB hq).1 ⟨nil_prefix,hq0⟩);generalize VN:mix (T.K []) [] (az fs) fr=fr1 at CL;generalize Mu:mix (T.K []) [] (mV fs) mn=mn1 at CL;have Sc:∀q∈T.D,q≠[]->fr1 q=az fs q/\mn1 q=mV fs q:=λq hq hq0=>by
    rw[<- VN,<- Mu];unfold mix;rw[Vv q hq hq0];exact⟨rfl,rfl⟩
   have lS:Ow (ak n x fs HC iT::ca T tk ct fr1 mn1::RP.cq x.pr (ps.map (iP T.B))::RT.At x.el fs::Pt b3 45 [pP n 0]::RT.At bo O::RT.At bi A::RN.At bm S1::Pt Jo 156 [pP bm 0]::L) u3:=Ow.ord [0,0,1,1,1,1,1,0] CL;have adj:∀q∈ps,(az fs q.conds).length<=1024:=λq hq=>by
    obtain⟨_,_,_,_,_,g1,g2⟩:=(hR.Ji q hq).facts;obtain⟨r,d,e⟩:=oh g1;have h4:=hC r d (by rw[<- e];exact hR.pD q hq) nil_prefix 0;rw[jE,<- dk,<- e]at h4;omega
   have Xo:ps.length<=100:=by have:=hR.LS;omega
   refine(lS.new 3 [pI 0] KA).st 0 rfl (by simp) λu4 Bm=>?_;refine⟨_,Bm.rd 5 rfl (by simp),?_⟩;dsimp only;refine⟨_,aI (ak.zb (x:=x) (es:=fs) (ms:=HC) (ids:=iT) Bm (by simp)) (by simp),(RP.vO x.pr).call ⟨_,_,_,rfl,?_⟩⟩;have oK:((ps.map (iP T.B)).map λy=>[RP.cX y.1,RP.g_ y.2]).length=ps.length:=by simp
   refine bu.own (RP.gB x.pr (ps.map (iP T.B)) (by simp;omega)) (Ow.at 3 rfl Bm)
    (λk u=>Ow (ak n x fs HC iT::ca T tk ct fr1 mn1::RP.cq x.pr (ps.map (iP T.B))::RT.At x.el fs::Pt b3 45 [pP n 0]::RT.At bo O::RT.At bi A::Pt Yb 3 [pI ((((ps.take k).map λq=>(az fs q.conds).length).sum:Nat):Int)]::RN.At bm S1::Pt Jo 156 [pP bm 0]::L) u) (λ_ _=>False) (λk=>eJ.own _) (λ_ _ _ _ h=>h.elim) (λμ' h'=>?_) ?_ ?_ (λ_ _ h=>h.elim)
   ·have h14:Ow (RP.cq x.pr (ps.map (iP T.B))::Pt Yb 3 [pI 0]::ak n x fs HC iT::ca T tk ct fr1 mn1::RT.At x.el fs::Pt b3 45 [pP n 0]::RT.At bo O::RT.At bi A::RN.At bm S1::Pt Jo 156 [pP bm 0]::L) μ':=h';exact Ow.ord [2,2,0,1,1,1,1,0] h14
   ·rintro k eT u2 R h2 bX _;have cj:k<ps.length:=by simpa using eT
    have hm:=getElem_mem cj;have d1:=hR.pD _ hm;obtain⟨_,_,_,_,_,d2,d3⟩:=(hR.Ji _ hm).facts;obtain⟨F2,Sr⟩:=ca.rd d1 (Ow.swap h2);obtain⟨w1,w2⟩:=Ev T.B d2 (by omega);rw[getElem_map,getElem_map];refine⟨_,_,_,_,_,_,_,_,rfl,_,h2.rd 7 rfl (by simp),w2,_,w1,_,rfl,?_⟩;dsimp only;refine⟨_,_,aI Sr (by simp),?_⟩;dsimp only[gJ];rw[(Sc _ d1 d2).1];refine h2.st 7 rfl (by simp) λu3 h3=>bX _ ?_;have hs:((ps.take (k+1)).map λq=>(az fs q.conds).length).sum=((ps.take k).map λq=>(az fs q.conds).length).sum+(az fs ps[k].conds).length:=by
     rw[eV cj,List.sum_append];simp
    have h4:=adj _ hm;have h5:=JC (l:=ps.take k) (f:=λq=>(az fs q.conds).length) (b:=1024) λq hq=>adj q (mem_of_mem_take hq);rw[length_take]at h5;have e:dy [pI ((((ps.take k).map λq=>(az fs q.conds).length).sum:Nat):Int)] 0 [pI (wrap .i64 (((((ps.take k).map λq=>(az fs q.conds).length).sum:Nat):Int)+((((az fs ps[k].conds).map bR.pv).length:Nat):Int)))]=[pI ((((ps.take (k+1)).map λq=>(az fs q.conds).length).sum:Nat):Int)]:=by
     rw[hs,length_map,aC (by omega) (by omega)];show[pI _]=_;congr 2
    rw[e]at h3;exact h3
   ·intro u2 h2;rw[oK,take_length]at h2;dsimp only[PK];have h14:Ow (ak n x fs HC iT::ca T tk ct fr1 mn1::RP.cq x.pr (ps.map (iP T.B))::RT.At x.el fs::Pt b3 45 [pP n 0]::RT.At bo O::RT.At bi A::L) u2:=h2.tail λ_ h=>h.tail λ_ h=>h.tail λ_ h=>h.tail λ_ h=>h.tail λ_ h=>h.tail λ_ h=>h.tail λ_ h=>h.drop.drop.drop;refine⟨_,h2.rd 7 rfl (by simp),_,h2.rd 4 rfl (by simp),?_⟩;dsimp only;refine⟨_,aI (ak.zb (x:=x) (es:=fs) (ms:=HC) (ids:=iT) h2 (by simp)) (by simp),ab.mk (λhb=>?_) (λhb=>?_)⟩
    ·have je:x.M<((cW fs ps:Nat):Int):=by
      have:x.M<(((ps.map λq=>(az fs q.conds).length).sum:Nat):Int):=by simpa using hb
      exact this
     exact⟨fr1,mn1,.inr (.inl ⟨rfl,HU,je⟩),h14⟩
    ·have je:((cW fs ps:Nat):Int)<=x.M:=by
      have:¬x.M<(((ps.map λq=>(az fs q.conds).length).sum:Nat):Int):=by simpa using hb
      unfold cW;omega
     exact⟨fr1,mn1,.inr (.inr ⟨rfl,HU,je,Sc⟩),h14⟩
  ·have lS:Ow (ak n x fs HC iT::ca T tk ct nQ nq::RP.cq x.pr (ps.map (iP T.B))::RT.At x.el fs::Pt b3 45 [pP n 0]::RT.At bo O::RT.At bi A::RN.At bm S1::Pt Jo 156 [pP bm 0]::L) u3:=Ow.ord [0,0,1,1,1,1,1,0] CL;exact lS.tail λ_ h=>h.tail λ_ h=>h.tail λ_ h=>h.tail λ_ h=>h.tail λ_ h=>h.tail λ_ h=>h.tail λ_ h=>h.drop.drop
 ·clear tO;rintro e u3 ⟨nQ,nq,XC,CL⟩;refine ab.mk (λh0=>?_) (λh0=>?_)
  ·have XM:e=0:=by simpa using h0
   obtain⟨_,HU,jX,Sc⟩:e=0/\(¬ ∃q∈ps,dz x.T fs q.conds)/\((cW fs ps:Nat):Int)<=x.M/\∀q∈T.D,q≠[]->nQ q=az fs q/\nq q=mV fs q:=by
    rcases XC with⟨h,_⟩|⟨h,_⟩|h
    ·omega
    ·omega
    ·exact h
   subst XM;refine⟨_,CL.rd 4 rfl (by simp),?_⟩;dsimp only[nP,nn,aU];refine⟨_,aI (ak.zb (x:=x) (es:=fs) (ms:=HC) (ids:=iT) CL (by simp)) (by simp),?_⟩;rw[hR.root];refine Wi hR.core.tree 17 [] tk ct nQ nq VB (by simp) (Ow.swap CL) λu4 lS=>⟨rfl,?_⟩;have Vv:∀q∈T.D,q≠[]->under (T.K []) [] q=true:=λq hq hq0=>gz.2 ((hR.core.tree.below VB hq).1 ⟨nil_prefix,hq0⟩);have acZ:under (T.K []) [] []=false:=by
    cases h:under (T.K []) [] []with
    |false=>rfl
    |true=>
     obtain⟨c,_,hp⟩:=gz.1 h;have:=hp.length_le;simp at this
   have hTk:WM T x.T fs (mix (T.K []) [] nQ tk) (mix (T.K []) [] nq ct):=by
    refine⟨λp hp=>?_,λp c hp=>?_,λp c hp j=>?_⟩
    ·unfold mix;by_cases e:p=[]
     ·subst e;rw[acZ];exact ac1
     ·rw[Vv p hp e];exact(Sc p hp e).1
    ·unfold mix;rw[Vv _ hp (by simp)];show nq (p++[c])=_;rw[(Sc _ hp (by simp)).2,oN]
    ·by_cases hj:((dB fs c (az fs p) j:Nat):Int)<=x.T
     ·exact hj
     ·exact absurd (RL.1 ⟨p,c,j,hp,by omega⟩) HU
   refine hk 0 fs u4 (.ok gZ xv yF fs jB HU jX) (ko.shut (fr:=mix (T.K []) [] (λ_=>[]) nQ) (mn:=mix (T.K []) [] (λ_=>[]) nq) (hR.zP Ss lu HR hTk Bg) jX ?_);exact(Ow.swap lS).tail λ_ h=>h.tail λ_ h=>h.tail λ_ h=>h.tail λ_ h=>h.drop.drop.drop
  ·have ZM:mj x.T x.M es ps add drop e es:=by
    rcases XC with⟨rfl,h⟩|⟨rfl,h,h'⟩|⟨rfl,_⟩
    ·exact .dO gZ xv yF fs jB h
    ·exact .eb gZ xv yF fs jB h h'
    ·simp at h0
   have hAd:∀{k:Nat} (eT:k<A.length),A[k]∈aJ (A.take k) fs:=λ{k} eT=>by
    refine db.2 ⟨(jB.2 _).2 (.inl ((VV _).1 (getElem_mem eT))),λo ho e=>?_⟩;obtain⟨j,hj,rfl⟩:=mem_iff_getElem.1 ho;rw[getElem_take]at e;simp only[length_take]at hj;have:=List.pairwise_iff_getElem.1 XJ j k (by omega) eT (by omega);have:=vJ.1 this;simp only[aD]at this;omega
   refine(RT.pN bi).call ⟨_,_,_,rfl,?_⟩;refine bu.own (RT.d_ bi A (by omega)) (Ow.ord [6] CL)
    (λk u=>∃cr iK,(dx (aJ (A.take k) fs) cr/\ji (aJ (A.take k) fs) iK/\fD ms cr)/\Ow (ak n x (aJ (A.take k) fs) cr iK::ca T tk ct nQ nq::RP.cq x.pr (ps.map (iP T.B))::RT.At x.el (aJ (A.take k) fs)::Pt b3 45 [pP n 0]::RT.At bo O::RT.At bi A::L) u)
    (λ_ _=>False) (λk=>eJ.ex λ_=>eJ.ex λ_=>eJ.and (eJ.own _)) (λ_ _ _ _ h=>h.elim) (λμ' h'=>⟨HC,iT,⟨Ss,lu,HR⟩,?_⟩) ?_ ?_ (λ_ _ h=>h.elim)
   ·have lS:Ow (RT.At bi A::ak n x fs HC iT::ca T tk ct nQ nq::RP.cq x.pr (ps.map (iP T.B))::RT.At x.el fs::Pt b3 45 [pP n 0]::RT.At bo O::L) μ':=h';exact Ow.ord [1,1,1,1,1,1,0] lS
   ·rintro k eT u R ⟨cr,iK,⟨yH,dK,hs⟩,lS⟩ bX _;have cj:k<A.length:=by simpa using eT
    rw[getElem_map];refine⟨_,_,_,_,_,_,_,_,_,_,_,_,rfl,_,lS.rd 4 rfl (by simp),?_⟩;refine Te yH dK (hAd cj) (Ow.ord [0,2] lS) λJj CA f u3 VW yG Cc Bm=>⟨_,_,rfl,bX _ ⟨Jj,CA,⟨by rw[gE cj];exact VW,by rw[gE cj];exact yG,hs.trans Cc⟩,?_⟩⟩;rw[gE cj];exact Ow.ord [0,1,1,0] Bm
   rintro u4 ⟨Jj,CA,⟨VW,yG,Cc⟩,lS⟩;rw[length_map]at VW yG lS;rw[take_length]at VW yG lS;dsimp only[PK];refine(RT.pN bo).call ⟨_,_,_,rfl,?_⟩;have amh:=qR A fs;have mu:fs.length<=es.length+A.length:=by
    rw[<- hfs];have:=oR A (aJ O es);omega
   have PJ:ch (O.take 0) (aJ A fs)=aJ A fs:=by rw[take_zero];rfl
   refine bu.own (RT.d_ bo O (by omega)) (Ow.ord [5] lS)
    (λk u=>∃cr iK,(dx (ch (O.take k) (aJ A fs)) cr/\ji (ch (O.take k) (aJ A fs)) iK/\fD ms cr)/\Ow (ak n x (ch (O.take k) (aJ A fs)) cr iK::ca T tk ct nQ nq::RP.cq x.pr (ps.map (iP T.B))::RT.At x.el (ch (O.take k) (aJ A fs))::Pt b3 45 [pP n 0]::RT.At bo O::RT.At bi A::L) u)
    (λ_ _=>False) (λk=>eJ.ex λ_=>eJ.ex λ_=>eJ.and (eJ.own _)) (λ_ _ _ _ h=>h.elim) (λμ' h'=>⟨Jj,CA,⟨by rw[PJ];exact VW,by rw[PJ];exact yG,Cc⟩,?_⟩) ?_ ?_ (λ_ _ h=>h.elim)
   ·rw[PJ];have Bm:Ow (RT.At bo O::ak n x (aJ A fs) Jj CA::ca T tk ct nQ nq::RP.cq x.pr (ps.map (iP T.B))::RT.At x.el (aJ A fs)::Pt b3 45 [pP n 0]::RT.At bi A::L) μ':=h';exact Ow.ord [1,1,1,1,1,0] Bm
   ·rintro k eT u R ⟨cr,iK,⟨yH,dK,hs⟩,Bm⟩ bX _;have cj:k<O.length:=by simpa using eT
    rw[getElem_map];refine⟨_,_,_,_,_,_,_,_,_,_,_,_,rfl,_,Bm.rd 4 rfl (by simp),?_⟩;have ZQ:=oR (O.take k) (aJ A fs);rw[length_take]at ZQ;have adG:=hSt.aaa hu yF cj;rw[hfs]at adG;refine XT yH dK adG (by omega) (Ow.ord [0,2] Bm) λms3 acP f u3 hA3 Sq hs3 h14=>⟨_,_,rfl,bX _ ⟨ms3,acP,⟨by rw[iD cj];exact hA3,by rw[iD cj];exact Sq,hs.trans hs3⟩,?_⟩⟩;rw[iD cj];exact Ow.ord [0,1,1,0] h14
   rintro u5 ⟨ms3,acP,⟨hA3,Sq,hs3⟩,Bm⟩;rw[length_map]at hA3 Sq Bm;rw[take_length]at hA3 Sq Bm;have yE:=hSt.back hu yF;rw[hfs]at yE;rw[yE]at hA3 Sq Bm;dsimp only[PK];refine hk e es u5 ZM (ko.shut (fr:=nQ) (mn:=nq) (hR.zP hA3 Sq hs3 hR.core.dO hR.tags) pH ?_);exact Bm.tail λ_ h=>h.tail λ_ h=>h.tail λ_ h=>h.tail λ_ h=>h.drop.drop.drop
end
end Go.Proofs.YthaeiehophlooaaGreat
namespace Go.aO
open Go.RowKit
def Gf(P:Program)(f:PV)(items:Lq)(A:aX):Prop:=
 (∃g a b,f=.fn (.func g) a b)/\∀(fy:Fn) (ya yb:List PV) (J:Nat->aX) (S:aX) (μ:Mem),Bq fy True->Ow [A,J 0] μ->
  (∀(k:Nat) (h:k<items.length) (μ:Mem),J k μ->bJ P (.fn fy ya yb) items[k] μ λv μ'=>(v=pB true/\Ow [J (k+1)] μ')\/(v=pB false/\Ow [S] μ'))->
  bJ P f [.fn fy ya yb] μ λ_ μ'=>Ow [A,J items.length] μ'\/Ow [A,S] μ'
theorem Gf.mk{P:Program}{g:FuncId}{a b:List PV}{items:Lq}{A:aX}
  (h:∀(fy:Fn) (ya yb:List PV) (J:Nat->aX) (S:aX) (μ:Mem),Bq fy True->Ow [A,J 0] μ->
   (∀(k:Nat) (h:k<items.length) (μ:Mem),J k μ->bJ P (.fn fy ya yb) items[k] μ λv μ'=>(v=pB true/\Ow [J (k+1)] μ')\/(v=pB false/\Ow [S] μ'))->
   aa P g (a++[.fn fy ya yb]++b) μ λ_ μ'=>Ow [A,J items.length] μ'\/Ow [A,S] μ'):Gf P (.fn (.func g) a b) items A:=
 ⟨⟨g,a,b,rfl⟩,λfy ya yb J S μ hy h0 cO=>h fy ya yb J S μ hy h0 cO⟩
theorem bu.acB{P:Program}{f:PV}{items:Lq}{A:aX}{L:List aX}{body:List PV->(Option Code->Mem->Prop)->Mem->Prop}{K:Option Code->Mem->Prop}{μ:Mem}(hs:Gf P f items A)(hO:Ow (A::L) μ)
  (J:Nat->aX) (S:Code->aX) (hJ:∀k,eJ (J k)) (hS:∀c,eJ (S c)) (h0:∀μ',Ow L μ'->J 0 μ')
  (cO:∀(k:Nat) (h:k<items.length) (μ:Mem) (R:Option Code->Mem->Prop),J k μ->(∀μ',J (k+1) μ'->R none μ')->(∀c μ',S c μ'->R (some c) μ')->body items[k] R μ)
  (ZI:∀μ,Ow [A,J items.length] μ->K none μ) (RE:∀c μ,Ow [A,S c] μ->K (some c) μ):bu P f body K μ:=by
 obtain⟨hf,hs⟩:=hs;refine⟨hf,λl rec hl hy=>?_⟩;have cut:∀{ν:Mem} {o:Ob} {M:List aX},Ow (Rc l o::M) ν->ν l=some o/\Ow M (ν.set l none):=λ{ν o M} h=>by
  obtain⟨ν1,ν2,tH,rfl,hR,hM⟩:=h;refine⟨Mem.bC hR,hM.mono λb o' hb=>?_⟩;have GD:ν1 b=none:=(tH b).resolve_right (by rw[hb];simp);have aZ:b≠l:=by
   rintro rfl;have:ν1 b=_:=hR;rw[this]at GD;cases GD
  rw[Mem.ax _ _ aZ,Mem.bI GD];exact hb
 have glue:∀{ν:Mem} {o:Ob},ν l=some o->ν=(ν.set l none).set l (some o):=λ{ν o} h=>by
  rw[Mem.set_set,Mem.An h]
 have lift:∀{ν:Mem} {o:Ob} {B:aX},eJ B->Ow [A,λν=>∃μ3,μ3 l=none/\ν=μ3.set l (some o)/\B μ3] ν->ν l=some o/\Ow [A,B] (ν.set l none):=λ{ν o B} hB h=>by
  obtain⟨ν1,ν2,tH,rfl,hA,ν3,ν4,ajE,rfl,⟨μ3,h1,rfl,h3⟩,_⟩:=h;have zH:ν1 l=none:=by
   rcases tH l with h|h
   ·exact h
   ·rw[Mem.bC (Mem.an _ _ _)]at h;cases h
  have e2:((μ3.set l (some o)).or ν4) l=some o:=Mem.bC (Mem.an _ _ _);refine⟨by rw[Mem.bI zH];exact e2,ν1,((μ3.set l (some o)).or ν4).set l none,λb=>?_,?_,hA,Ow.one (hB μ3 _ (λb o' hb=>?_) h3)⟩
  ·by_cases e:b=l
   ·subst e;exact .inl zH
   ·rw[Mem.ax _ _ e];exact tH b
  ·funext b;by_cases e:b=l
   ·subst e;rw[Mem.an,Mem.bI zH,Mem.an]
   ·rw[Mem.ax _ _ e];show(ν1.or ((μ3.set l (some o)).or ν4)) b=(ν1.or (((μ3.set l (some o)).or ν4).set l none)) b;cases hx:ν1 b with
    |some y=>rw[Mem.bC hx,Mem.bC hx]
    |none=>rw[Mem.bI hx,Mem.bI hx,Mem.ax _ _ e]
  ·have aZ:b≠l:=by rintro rfl;rw[h1]at hb;cases hb
   rw[Mem.ax _ _ aZ];exact Mem.bC (by rw[Mem.ax _ _ aZ];exact hb)
 refine(hs (.yield l) [] [] (λk ν=>∃μ3,μ3 l=none/\ν=μ3.set l (some (rec none))/\J k μ3) (λν=>∃c μ3,μ3 l=none/\ν=μ3.set l (some (rec (some c)))/\S c μ3) _ trivial ?_ ?_).mono ?_
 ·have h1:Ow (Rc l (rec none)::A::L) (μ.set l (some (rec none))):=by
   refine⟨M0.set l (some (rec none)),μ,λx=>?_,?_,Mem.an _ _ _,hO⟩
   ·by_cases e:x=l
    ·subst e;exact .inr hl
    ·rw[Mem.ax _ _ e];exact .inl rfl
   ·funext x;by_cases e:x=l
    ·subst e;rw[Mem.an,Mem.bC (Mem.an _ _ _)]
    ·rw[Mem.ax _ _ e,Mem.bI (by rw[Mem.ax _ _ e];rfl)]
  refine h1.swap.tail λν hν=>Ow.one ?_;obtain⟨h2,h3⟩:=cut hν;exact⟨_,Mem.an _ _ _,glue h2,h0 _ h3⟩
 ·rintro k hk _ ⟨μ3,h1,rfl,XI⟩;refine(hy items[k] μ3 (λp μ'=>match p with|none=>J (k+1) μ'|some c=>S c μ') h1 (cO k hk μ3 _ XI (λμ' h=>h) (λc μ' h=>h))).mono ?_;rintro v μ2 ⟨p,μ4,rfl,h3,rfl,hR⟩;cases p with
  |none=>exact .inl ⟨rfl,Ow.one ⟨μ4,h3,rfl,hR⟩⟩
  |some c=>exact .inr ⟨rfl,Ow.one ⟨c,μ4,h3,rfl,hR⟩⟩
 ·rintro v ν (h|h)
  ·obtain⟨h4,h5⟩:=lift (hJ _) h;exact⟨none,ν.set l none,Mem.an _ _ _,glue h4,ZI _ h5⟩
  ·have h6:Ow [A,λν=>∃c,(λν=>∃μ3,μ3 l=none/\ν=μ3.set l (some (rec (some c)))/\S c μ3) ν] ν:=h;obtain⟨c,h7⟩:=Ow.ex h6.swap;obtain⟨h4,h5⟩:=lift (hS c) h7.swap;exact⟨some c,ν.set l none,Mem.an _ _ _,glue h4,RE c _ h5⟩
end Go.aO
