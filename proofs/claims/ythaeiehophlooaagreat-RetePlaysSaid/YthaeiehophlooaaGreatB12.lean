import Derived.Test.YthaeiehophlooaaGreatB11
open Go.IntKind (wrap)
open List (Pairwise.nil append_assoc append_inj' append_nil filter_cons flatMap_append flatMap_cons flatMap_nil foldl_append foldl_cons getElem?_eq_getElem getElem_map getElem_mem length_append length_cons length_filter_le length_map length_take map_append map_congr_left map_cons map_id map_map map_nil mem_append mem_cons mem_filter mem_flatMap mem_map mem_range mem_singleton nodup_append nodup_cons pairwise_append pairwise_cons pairwise_map prefix_append prefix_refl range range_succ sum_cons take_add_one take_length take_prefix take_take)
open Nat (beq le_trans min_eq_left)
set_option linter.all false
namespace Go.Proofs.YthaeiehophlooaaGreat
open Go.Proofs.Tryz Go.aP Go.RowKit
def dQ(B:Path->Nat)(l:Path):List Nat:=(range l.length).map λi=>B (l.take (i+1))
def jA(B:Path->Nat)(l:Path):(dQ B l).length=l.length:=by simp[dQ]
def Fc(B:Path->Nat)(l:Path){k:Nat}(e:k<l.length):((dQ B l).map λb=>[pP b 0])[Int.toNat (k:Int)]?=some [pP (B (l.take (k+1))) 0]:=by
 have h:k<(dQ B l).length:=by rw[jA];exact e
 rw[Int.toNat_natCast,List.getElem?_map,getElem?_eq_getElem h];simp[dQ]
def OP(b:Nat):(beq b b&&beq 0 0)=true:=by simp
def VV{a b:Nat}(h:a≠b):(beq a b&&beq 0 0)=false:=by
 cases e:beq a b with
 |false=>rfl
 |true=>exact absurd (Nat.eq_of_beq_eq_true e) h
section
variable {n:Nat} {x:NC} {es:List aj} {ids:pq} {Bd:Int} {tk:Path->List bY} {ct:Path->List Nat} {fr:Path->List bY} {mn:Path->List Nat}
def cj.aaZ{T:Tree}(h:sf T){q:Path}{c:ae}(H:q++[c]∈T.D){L:List aO}{G:Mem}(hO:Ow (cj T tk ct fr mn::L) G){j:Nat}(hj:j<(T.K q).length)(ej:(T.K q)[j]=c){K:Mem->Prop}
  (hK:∀F g,Ow (cj (T.del q c) tk ct fr mn::Pt (T.B (q++[c])) 126 (gK T tk ct fr mn (q++[c]) F).pv::L) g->K g):
  gq (T.S q).1/\(T.K q).length<=(T.S q).2/\eB 1 8 110 (zI (T.S q).1 0 (T.S q).2 1) j (T.S q).2 (.raw (.slice (zI (T.S q).1 (j+1) (T.S q).2 1) ((T.K q).length-(j+1)) ((T.S q).2-(j+1)))) G (λs Q U u=>stM (T.B q) 7 [.raw (.slice s Q U)] u K):=by
 have Y:=h.up _ _ H;have Hu:=h.kl Y;have BV:=h.EG;obtain⟨A,B,F,e,h1⟩:=cj.out H hO;have aW:q≠q++[c]:=λe=>by have:=congrArg List.length e;simp at this
 have IJ:q∈A++B:=by
  rw[<- EJ h e];exact mem_filter.2 ⟨Y,by simpa using aW⟩
 have h2:Ow (cj ⟨A++B,T.B,T.M,T.E,T.K,T.S⟩ tk ct fr mn::Pt (T.B (q++[c])) 126 (gK T tk ct fr mn (q++[c]) F).pv::L) G:=by
  have h3:Ow (Ow ((A++B).map (et T tk ct fr mn))::Pt (T.B (q++[c])) 126 (gK T tk ct fr mn (q++[c]) F).pv::L) G:=Ow.ord [1,0] h1.swap.drop |> λh=>h;exact h3
 obtain⟨C,y,I,e2,h3⟩:=cj.out (T:=⟨A++B,T.B,T.M,T.E,T.K,T.S⟩) IJ h2;have h4:Ow (ca 110 1 (.raw (.slice (T.S q).1 (T.K q).length (T.S q).2)) ((T.K q).map λc=>[pP (T.B (q++[c])) 0])::Pt (T.B q) 126 (gK T tk ct fr mn q I).pv::Ow ((C++y).map (et T tk ct fr mn))::Pt (T.B (q++[c])) 126 (gK T tk ct fr mn (q++[c]) F).pv::L) G:=h3.swap;have key:∀(g:Mem),Ow (ca 110 1 (.raw (.slice (T.S q).1 ((T.K q).length-1) (T.S q).2)) (((T.K q).eraseIdx j).map λx=>[pP (T.B (q++[x])) 0])::Pt (T.B q) 126 (gK T tk ct fr mn q I).pv::Ow ((C++y).map (et T tk ct fr mn))::Pt (T.B (q++[c])) 126 (gK T tk ct fr mn (q++[c]) F).pv::L) g->stM (T.B q) 7 [.raw (.slice (T.S q).1 ((T.K q).length-1) (T.S q).2)] g K:=by
  intro g h5;refine h5.st 1 rfl (by simp) λJ h6=>hK F J ?_;have hD:(T.del q c).D=C++q::y:=by
   show T.D.filter _=_;rw[EJ h e];exact e2
  have hn2:(C++q::y).Nodup:=by rw[<- hD];exact h.nodup.filter _
  have YB:(T.del q c).K q=(T.K q).eraseIdx j:=by
   show aI T.K q _ q=_;rw[cB,erase_filter hj (h.IB q Y) ej]
  have i:((T.K q).eraseIdx j).length=(T.K q).length-1:=by rw[List.length_eraseIdx,if_pos hj]
  refine cj.in_ hD (F:=I) ?_;have ju:(C++y).map (et (T.del q c) tk ct fr mn)=(C++y).map (et T tk ct fr mn):=map_congr_left λr hr=>by
   have Sp:r≠q:=by
    rintro rfl;obtain⟨n1,n2,n3⟩:=nodup_append.1 hn2;rcases mem_append.1 hr with h|h
    .exact n3 r h r (by simp) rfl
    .exact(nodup_cons.1 n2).1 h
   exact cj.LI (T:=T) (T':=T.del q c) rfl rfl rfl (aS Sp) rfl (λ_ _=>rfl) rfl rfl rfl rfl
  rw[ju];have lF:(gK (T.del q c) tk ct fr mn q I).pv=du (gK T tk ct fr mn q I).pv 7 [.raw (.slice (T.S q).1 ((T.K q).length-1) (T.S q).2)]:=by
   unfold gK mr.pv;rw[YB,i];rfl
  have hV:Hq (T.del q c) q=ca 110 1 (.raw (.slice (T.S q).1 ((T.K q).length-1) (T.S q).2)) (((T.K q).eraseIdx j).map λc=>[pP (T.B (q++[c])) 0]):=by
   unfold Hq ig;rw[YB,i];rfl
  rw[lF,hV];exact h6.swap
 obtain⟨v1,v2,v3,v4⟩:=ca.cut h4 (λ_=>rfl) hj (by omega) (K:=λs Q U u=>stM (T.B q) 7 [.raw (.slice s Q U)] u K) key;exact⟨v1,v3,v4⟩
def LM(l:Path)(se:l.length<=1000){T:Tree}{ms:dq}(hC:jz Bd T es ms tk ct)(hlD:l∈T.D)(hN:UF T (λr=>r <+: l))(ad3:x.root=T.B [])(fl:Fl){L:List aO}{μ:Mem}(hO:Ow (an n x es ms ids::cj T tk ct fr mn::L) μ){K:Kq}
  (hk:∀g y J,jz Bd g es y tk ct->UF g (λ_=>False)->g.B=T.B->g.E=T.E->(∀r∈g.D,r∈T.D)->(∀r∈T.D,0<T.E r->r∈g.D)->Ow (an n x es y ids::cj g tk ct fr mn::L) J->K (.aB []) J):
  aa prog 69 [pP n 0,.list 1 fl ((dQ T.B l).map λb=>[pP b 0])] μ K:=by
 refine yL.c ?_;rw[show wrap .i64 (((((dQ T.B l).map λb=>[pP b 0]).length:Nat):Int)-1)=((l.length:Nat):Int)-1 from by rw[length_map,jA,aD (by omega) (by omega)]];refine ak.afl l.length (λm u=>∃g y,(jz Bd g es y tk ct/\l.take m∈g.D/\UF g (λr=>r <+: l.take m)/\g.B=T.B/\g.E=T.E/\(∀r∈g.D,r∈T.D)/\(∀r∈T.D,0<T.E r->r∈g.D))/\Ow (an n x es y ids::cj g tk ct fr mn::L) u) ⟨T,ms,⟨hC,by rw[take_length];exact hlD,by rw[take_length];exact hN,rfl,rfl,λ_ h=>h,λ_ h _=>h⟩,hO⟩ ?_ ?_
 .rintro k u next Hu ⟨g,y,⟨i,C,G,Y,hE,iQ,pQ⟩,I⟩ au
  have ep:l.take (k+1)=l.take k++[l[k]]:=by rw[take_add_one,getElem?_eq_getElem Hu];rfl
  generalize hq:l.take k=q at*
  generalize hc:l[k]=c at*
  rw[ep]at C G;have sd:=i.tree.up _ _ C;have eh:((dQ T.B l).map λb=>[pP b 0])[Int.toNat (k:Int)]?=some [pP (g.B (q++[c])) 0]:=by rw[Fc T.B l Hu,ep,Y]
  obtain⟨F,hF⟩:=cj.rd C (Ow.swap I);have done:(g.K (q++[c])≠[]\/0<g.E (q++[c]))->K (.aB []) u:=λhor=>by
   refine hk g y u i (λr H Gi _=>?_) Y hE iQ pQ I;by_cases fD:r <+: q++[c]
   .by_cases e:r=q++[c]
    .rw[e];exact hor
    .left;obtain⟨s,hs⟩:=fD;cases s with
     |nil=>rw[append_nil]at hs;exact absurd hs e
     |cons d s=>
      have:r++[d]∈g.D:=i.tree.OG C ⟨s,by rw[<- hs];simp⟩;have:=(i.tree.kids r H d).2 this;intro e0;rw[e0]at this;cases this
   .exact G r H Gi fD
  refine ab.t (by simp) ⟨by omega,_,eh,_,rfl,?_⟩;dsimp only[nP,nn,aM];refine⟨_,_,_,aH hF (by simp),ab.mk (λh=>done (.inl λe=>?_)) (λGl=>⟨_,aH hF (by simp),ab.mk (λh=>done (.inr ?_)) (λQs=>?_)⟩)⟩
  .have h9:0<(g.K (q++[c])).length:=by simpa using h
   rw[e]at h9;simp at h9
  .dsimp only[gK]at h;simpa using h
  .have Wy:g.K (q++[c])=[]:=by
    dsimp only[gK]at Gl;have:(g.K (q++[c])).length=0:=by simpa using Gl
    exact List.eq_nil_of_length_eq_zero this
   have ane:g.E (q++[c])=0:=by
    dsimp only[gK]at Qs;have:¬(0:Int)<((g.E (q++[c]):Nat):Int):=by simpa using Qs
    omega
   refine⟨_,aH (an.xt (x:=x) (es:=es) (ms:=y) (ids:=ids) I (by simp)) (by simp),?_⟩;refine⟨λs u'=>s=some ⟨g.B q,0,none⟩/\u'=u,ab.mk (λh=>?_) (λh=>⟨?_,rfl⟩),?_⟩
   .have jJ:0<k:=by simpa using h
    obtain⟨k',rfl⟩:∃k',k=k'+1:=⟨k-1,by omega⟩;have hw:wrap .i64 (((k'+1:Nat):Int)-1)=(k':Int):=by rw[aD (by omega) (by omega)];omega
    rw[hw];refine⟨by omega,_,Fc T.B l (by omega),_,rfl,?_,rfl⟩;rw[hq,Y]
   .have jJ:k=0:=by
     have:¬0<k:=by simpa using h
     omega
    subst jJ;have:q=[]:=by rw[<- hq];rfl
    show some (⟨x.root,0,none⟩:Addr)=_;rw[this,Y,ad3]
   .rintro s u' ⟨rfl,rfl⟩;refine⟨λ_ u2=>∃F,Ow (an n x es y ids::Pt (g.B (q++[c])) 126 (gK g tk ct fr mn (q++[c]) F).pv::cj (g.del q c) tk ct fr mn::L) u2,?_,?_⟩
    .dsimp only[nP,nn,aM];obtain⟨Fq,U⟩:=cj.rd sd (Ow.swap I);have hkk:=i.tree.kl sd;have BV:=i.tree.EG;refine⟨_,_,_,aH U (by simp),?_⟩;dsimp only[gK];refine ak.each (n:=(g.K q).length) (by omega) (λj u2=>u2=u'/\c∉(g.K q).take j) ⟨rfl,by simp⟩ ?_ ?_
     .rintro j u2 It hj ⟨rfl,cM⟩ yf;obtain⟨b,hb,dF⟩:=cj.kid sd (Ow.swap I) hj;have tW:=i.tree.Sh sd hj;obtain⟨F2,Lz⟩:=cj.rd tW (Ow.swap I);rw[hb];refine ab.t (by simpa using hj) ⟨by omega,by simpa using hj,_,by simpa using dF,?_⟩;refine⟨⟨_,_,Lz,by simp⟩,⟨_,_,hF,by simp⟩,?_⟩;dsimp only;by_cases ed:(g.K q)[j]=c
      .rw[ed,OP];refine ab.t rfl ?_;obtain⟨v1,v2,v3⟩:=cj.aaZ i.tree C (Ow.swap I) hj ed (K:=λu3=>∃F,Ow (an n x es y ids::Pt (g.B (q++[c])) 126 (gK g tk ct fr mn (q++[c]) F).pv::cj (g.del q c) tk ct fr mn::L) u3) (λF J h=>⟨F,Ow.ord [2,1,0] h⟩);have hw:wrap .i64 ((j:Int)+1)=((j+1:Nat):Int):=by rw[aD (by omega) (by omega)];omega
       refine⟨_,_,_,aH U (by simp),?_⟩;dsimp only[gK];refine⟨v1,by omega,by omega,by omega,by omega,_,_,_,aH U (by simp),?_⟩;dsimp only[gK];rw[hw];refine⟨v1,by omega,by omega,by omega,by omega,?_⟩;simp only[Int.toNat_natCast,Int.toNat_zero,Nat.sub_zero];exact v3
      .rw[VV λe=>ed ?_]
       .refine ab.f rfl (yf _ ⟨rfl,λQ=>?_⟩);rw[take_add_one,getElem?_eq_getElem hj,mem_append]at Q;rcases Q with Q|Q
        .exact cM Q
        .simp only[Option.toList_some,mem_singleton]at Q;exact ed Q.symm
       .have:=cj.inj tW C (Ow.swap I) e;simpa using this
     .rintro u2 It ⟨rfl,cM⟩;rw[take_length]at cM;exact absurd ((i.tree.kids q sd c).2 C) cM
    .rintro _ u2 ⟨F2,h3⟩;have n_:=i.tree.ml q c C;have fK:=(i.tree.OJ C).2;refine NJ (gK g tk ct fr mn (q++[c]) F2) (l:=(g.del q c).D.flatMap g.M) (i.use.perm (To i.tree C)) (by show(g.M (q++[c])).length<=1000;omega) h3 λKc Hs hK2 u3 h4=>⟨rfl,?_⟩;rw[aD (by omega) (by omega)];refine au u3 ⟨g.del q c,Kc,⟨i.del C Wy Hs hK2,mem_filter.2 ⟨sd,?_⟩,λr H Gi hW=>?_,Y,hE,λr H=>iQ r (mem_filter.1 H).1,λr H he=>mem_filter.2 ⟨pQ r H he,?_⟩⟩,?_⟩
     .simp
     .obtain⟨Qn,Ex⟩:=mem_filter.1 H;have Ex:r≠q++[c]:=by simpa using Ex
      have Sp:r≠q:=by rintro rfl;exact hW (prefix_refl _)
      show aI g.K q _ r≠[]\/_;rw[aS Sp];refine G r Qn Gi λfD=>?_;rcases List.prefix_concat_iff.1 fD with h|h
      .exact Ex h
      .exact hW h
     .simp only[decide_eq_true_eq];rintro rfl;rw[<- hE]at he;omega
     .exact h4.tail λ_ h=>h.drop
 .rintro u next ⟨g,y,⟨i,C,G,Y,hE,iQ,pQ⟩,I⟩
  refine ab.f (by simp) (hk g y u i (λr H Gi _=>G r H Gi λhp=>Gi ?_) Y hE iQ pQ I);rw[List.take_zero]at hp;exact List.prefix_nil.1 hp
end
def UZ{v:ByteArray}(h:jq v=true):v≠⟨#[]⟩:=by
 rintro rfl;have:jq ⟨#[]⟩=false:=by kernel_rfl
 rw[this]at h;cases h
open K6
def Ba{p:Prod}(h:(da p).2=0):∀x∈dd p.conds 0 0,bE x.2.2 x.2.1=0:=by
 unfold da at h;cases hw:jq p.name with
 |false=>rw[hw]at h;simp at h
 |true=>
  rw[hw]at h;simp only[Bool.not_true,cond_false]at h;cases g:(decide (ah p.conds<1)||(decide (16<ah p.conds)||(decide (p.bd.length<1)||decide (16<p.bd.length))))with
  |true=>rw[g]at h;simp at h
  |false=>
   rw[g]at h;simp only[cond_false]at h;refine zv ?_;unfold lM at h;split at h
   .rename_i a e i;exact absurd h (rU i)
   .assumption
def Tr{c:ae}{d:Int}(h:bE c d=0)(i:c.kind=1\/c.kind=2):c.id≠⟨#[]⟩:=by
 unfold bE at h;have r:(c.kind == 3)=false:=by rcases i with e|e<;>rw[e]<;>rfl
 have j:((c.kind == 1)||(c.kind == 2))=true:=by rcases i with e|e<;>rw[e]<;>rfl
 rw[r,j]at h;simp only[cond_true,cond_false]at h;cases g:(decide (0<c.conds.length)||(!jq c.id||decide (c.attr.length=0)))with
 |true=>rw[g]at h;simp at h
 |false=>
  simp only[Bool.or_eq_false_iff,Bool.not_eq_false']at g;exact UZ g.2.1
mutual
theorem RF:∀(c:ae) (a d:Nat),cU c->(∀x∈gW c a d,bE x.2.2 x.2.1=0)->tE c
 | .mk k g i at_ v ac cs,a,d,hl,h=>by
   have h0:=h (a,d,.mk k g i at_ v ac cs) (by simp[gW])
   exact⟨hl,λhk=>Tr h0 hk,Bs cs (a+1) (d+1) ((bJ _).1 hl).2.2.2.2.2 λx hx=>h x (by simp[gW,hx])⟩
theorem Bs:∀(l:List ae) (a d:Nat),bO l->(∀x∈dd l a d,bE x.2.2 x.2.1=0)->tD l
 |[],_,_,_,_=>trivial
 |c::cs,a,d,hl,h=>⟨RF c a d hl.1 λx hx=>h x (by simp[dd,hx]),Bs cs (a+aQ c) d hl.2 λx hx=>h x (by simp[dd,hx])⟩
end
structure si(p:Prod):Prop where
 chk:(b_ p).2.1=0
 vM:bO p.conds
def si.facts{p:Prod}(h:si p):tD p.conds/\Qh p.conds/\1<=ah p.conds/\ah p.conds<=16/\p.bd.length<=16/\p.conds≠[]/\p.conds.length<=16:=by
 have i:=(ES h.chk).1;obtain⟨g,y,_,r,j⟩:=xK i;have:=cz p.conds;exact⟨Bs _ 0 0 h.vM (Ba i),j,g,y,r,λe=>by rw[e]at g;simp[ah]at g,by omega⟩
def eQ(q:Prod):ByteArray:=q.name
def gl(B:Path->Nat)(q:Prod):RP.El:=(q.name,⟨q,dQ B q.conds⟩)
structure ta(x:NC)(T:Tree)(es:List aj)(ms:dq)(ids:pq)(tk:Path->List bY)(ct:Path->List Nat)(ps:List Prod)(w:Nat)(W:Path->Prop):Prop where
 core:jz x.T T es ms tk ct
 Dj:UF T W
 ids:jn es ids
 root:x.root=T.B []
 tb:1<=x.T/\x.T<=1024
 mb:1<=x.M/\x.M<=1024
 Dc:ch bc eQ ps
 Ee:∀q∈ps,si q
 pD:∀q∈ps,q.conds∈T.D
 ends:∀p∈T.D,T.E p=(ps.filter λq=>decide (q.conds=p)).length
 tags:∀e∈es,1<=e.tag/\e.tag<9223372036854775808
 Kb:ps.length<=w
 dl:T.D.length<=1+16*w
def cJ(es:List aj)(ps:List Prod):Nat:=(ps.map λq=>(aE es q.conds).length).sum
@[reducible] def gf(n:Nat)(x:NC)(es:List aj)(ms:dq)(ids:pq)(T:Tree)(tk:Path->List bY)(ct:Path->List Nat)(fr:Path->List bY)(mn:Path->List Nat)(ps:List Prod)(L:List aO):List aO:=
 an n x es ms ids::cj T tk ct fr mn::RP.cy x.pr (ps.map (gl T.B))::RT.At x.el es::L
def fi(n:Nat)(x:NC)(es:List aj)(ps:List Prod)(w:Nat):aO:=λe=>∃T ms ids tk ct fr mn,(ta x T es ms ids tk ct ps w (λ_=>False)/\((cJ es ps:Nat):Int)<=x.M)/\Ow (gf n x es ms ids T tk ct fr mn ps []) e
def fi.open_{n:Nat}{x:NC}{es:List aj}{ps:List Prod}{w:Nat}{L:List aO}{e:Mem}(h:Ow (fi n x es ps w::L) e):∃T ms ids tk ct fr mn,(ta x T es ms ids tk ct ps w (λ_=>False)/\((cJ es ps:Nat):Int)<=x.M)/\Ow (gf n x es ms ids T tk ct fr mn ps L) e:=by
 obtain⟨T,h⟩:=Ow.ex h;obtain⟨ms,h⟩:=Ow.ex h;obtain⟨ids,h⟩:=Ow.ex h;obtain⟨tk,h⟩:=Ow.ex h;obtain⟨ct,h⟩:=Ow.ex h;obtain⟨fr,h⟩:=Ow.ex h;obtain⟨mn,h⟩:=Ow.ex h;obtain⟨hp,h⟩:=Ow.and h;exact⟨T,ms,ids,tk,ct,fr,mn,hp,h.nest⟩
def fi.shut{n:Nat}{x:NC}{es:List aj}{ps:List Prod}{w:Nat}{T:Tree}{ms:dq}{ids:pq}{tk:Path->List bY}{ct:Path->List Nat}{fr:Path->List bY}{mn:Path->List Nat}{L:List aO}{g:Mem}(hp:ta x T es ms ids tk ct ps w (λ_=>False))(i:((cJ es ps:Nat):Int)<=x.M)(h:Ow (gf n x es ms ids T tk ct fr mn ps L) g):Ow (fi n x es ps w::L) g:=
 (Ow.pack (L1:=gf n x es ms ids T tk ct fr mn ps []) h).imp λ_ e=>⟨T,ms,ids,tk,ct,fr,mn,⟨hp,i⟩,e⟩
section
variable {n:Nat} {x:NC} {es:List aj} {ms:dq} {ids:pq} {T:Tree} {tk:Path->List bY} {ct:Path->List Nat} {fr:Path->List bY} {mn:Path->List Nat}
def Ae(B:Path->Nat){l:Path}(g:l≠[])(h:l.length<=1000):((dQ B l).map λb=>[pP b 0])[Int.toNat (wrap .i64 (((((dQ B l).map λb=>[pP b 0]).length:Nat):Int)-1))]?=some [pP (B l) 0]/\0<=wrap .i64 (((((dQ B l).map λb=>[pP b 0]).length:Nat):Int)-1):=by
 have hp:0<l.length:=List.length_pos_iff.2 g;have e:wrap .i64 (((((dQ B l).map λb=>[pP b 0]).length:Nat):Int)-1)=((l.length-1:Nat):Int):=by
  rw[length_map,jA,aD (by omega) (by omega)];omega
 rw[e,Fc B l (by omega)];refine⟨?_,by omega⟩;rw[show l.length-1+1=l.length from by omega,take_length]
def Ft{e:Type}{f:e->Nat}{b:Nat}:∀{l:List e},(∀x∈l,f x<=b)->(l.map f).sum<=b*l.length
 |[],_=>by simp
 |x::l,h=>by
  have j:=h x (by simp)
  have i:=Ft (l:=l) λy g=>h y (by simp[g]);simp only[map_cons,sum_cons,length_cons];rw[Nat.mul_add];omega
theorem ajC{ps:List Prod}(hlen:ps.length<=10000)(hD:∀q∈ps,q.conds∈T.D/\q.conds≠[]/\q.conds.length<=1000)(hle:∀q∈ps,(tk q.conds).length<=1025){L:List aO}{μ:Mem}(hO:Ow (an n x es ms ids::cj T tk ct fr mn::RP.cy x.pr (ps.map (gl T.B))::L) μ){K:Kq}
  (hk:∀μ',Ow (an n x es ms ids::cj T tk ct fr mn::RP.cy x.pr (ps.map (gl T.B))::L) μ'->K (pI (((ps.map λq=>(tk q.conds).length).sum:Nat):Int)) μ'):aa prog 70 [pP n 0] μ K:=by
 refine CN.c λb3 Hw=>?_;refine(hO.new 3 [pI 0] Hw).st 0 rfl (by simp) λu h=>?_;refine⟨_,aH (an.xt (x:=x) (es:=es) (ms:=ms) (ids:=ids) h (by simp)) (by simp),(RP.rm x.pr).call ⟨_,_,_,rfl,?_⟩⟩;have n_:((ps.map (gl T.B)).map λy=>[RP.cY y.1,RP.gN y.2]).length=ps.length:=by simp
 refine bk.own (RP.fI x.pr (ps.map (gl T.B)) (by simp;omega)) (Ow.at 3 rfl h)
  (λk u=>Ow (an n x es ms ids::cj T tk ct fr mn::RP.cy x.pr (ps.map (gl T.B))::Pt b3 3 [pI ((((ps.take k).map λq=>(tk q.conds).length).sum:Nat):Int)]::L) u) (λ_ _=>False) (λk=>eW.own _) (λ_ _ _ _ h=>h.elim) (λμ' h'=>?_) ?_ ?_ (λ_ _ h=>h.elim)
 .have h2:Ow (RP.cy x.pr (ps.map (gl T.B))::Pt b3 3 [pI 0]::an n x es ms ids::cj T tk ct fr mn::L) μ':=h';exact Ow.ord [2,2,0,0] h2
 .rintro k dY u2 R h2 bT _;have bZ:k<ps.length:=by simpa using dY
  have hm:=getElem_mem bZ;obtain⟨d1,d2,d3⟩:=hD _ hm;obtain⟨F,hF⟩:=cj.rd d1 (Ow.swap h2);obtain⟨w1,w2⟩:=Ae T.B d2 d3;rw[getElem_map,getElem_map];refine⟨_,_,_,_,_,_,_,_,rfl,_,h2.rd 3 rfl (by simp),w2,_,w1,_,rfl,?_⟩;dsimp only[nP,nn,aM];refine⟨_,_,aH hF (by simp),?_⟩;refine h2.st 3 rfl (by simp) λu3 h3=>bT _ ?_;have hs:((ps.take (k+1)).map λq=>(tk q.conds).length).sum=((ps.take k).map λq=>(tk q.conds).length).sum+(tk ps[k].conds).length:=by
   rw[eZ bZ,List.sum_append];simp
  have h4:=hle _ hm;have h5:=Ft (l:=ps.take k) (f:=λq=>(tk q.conds).length) (b:=1025) λq hq=>hle q (List.mem_of_mem_take hq);rw[length_take]at h5;have e:du [pI ((((ps.take k).map λq=>(tk q.conds).length).sum:Nat):Int)] 0 [pI (wrap .i64 (((((ps.take k).map λq=>(tk q.conds).length).sum:Nat):Int)+((((tk ps[k].conds).map bY.pv).length:Nat):Int)))]=[pI ((((ps.take (k+1)).map λq=>(tk q.conds).length).sum:Nat):Int)]:=by
   rw[hs,length_map,aD (by omega) (by omega)];show[pI _]=_;congr 2
  rw[e]at h3;exact h3
 .intro u2 h2;rw[n_,take_length]at h2;dsimp only[PK];exact⟨_,h2.rd 3 rfl (by simp),hk u2 (h2.tail λ_ h=>h.tail λ_ h=>h.tail λ_ h=>h.drop)⟩
end
def ak.YI{i h g:Type}{e:(i×h×Int->g->Prop)->i×h×Int->g->Prop}{x:i}{y:h}{u:g}{n:Nat}(Q:n<9223372036854775808)(I:Nat->i->h->g->Prop)(C:I 0 x y u)
  (H:∀(k:Nat) (x:i) (y:h) (u:g) (next:i×h×Int->g->Prop),k<n->I k x y u->(∀x' j u',I (k+1) x' j u'->next (x',j,wrap .i64 ((k:Int)+1)) u')->e next (x,y,(k:Int)) u) (G:∀(x:i) (y:h) (u:g) (next:i×h×Int->g->Prop),I n x y u->e next (x,y,(n:Int)) u):ak e (x,y,0) u:=by
 refine⟨λm s u=>∃k:Nat,s.2.2=(k:Int)/\k<=n/\I k s.1 s.2.1 u/\m=n-k,⟨n-0,0,rfl,Nat.zero_le _,C,rfl⟩,?_⟩;rintro _ ⟨x,y,z⟩ u ⟨k,hz,U,r,rfl⟩;have hz:z=(k:Int):=hz;subst hz;by_cases L:k<n
 .refine H k x y u _ L r λx' j u' J=>?_;rw[aD (by omega) (by omega)];exact⟨n-(k+1),by omega,k+1,by show(k:Int)+1=((k+1:Nat):Int);omega,by omega,J,rfl⟩
 .have:k=n:=by omega
  subst this;exact G x y u _ r
def Tree.add(T:Tree)(q:Path)(c:ae)(xb:Nat)(aC:List Int)(s:Option Addr×Nat):Tree:=
 ⟨T.D++[q++[c]],aI T.B (q++[c]) xb,aI T.M (q++[c]) aC,aI T.E (q++[c]) 0,aI (aI T.K q (T.K q++[c])) (q++[c]) [],aI (aI T.S q s) (q++[c]) (none,0)⟩
section
variable {T:Tree} {q:Path} {c:ae} {xb:Nat} {aC:List Int} {s:Option Addr×Nat}
def sf.add(h:sf T)(C:q∈T.D)(L:q++[c]∉T.D)(hl:q.length<16)(hc:tE c)(hs:ah (q++[c])<=100)(hm:aC.length=aQ c)(hf:T.D.length+1<=5000)(Y:∀j∈aC,-1<=j):sf (T.add q c xb aC s):=by
 have y:∀r,r∈(T.add q c xb aC s).D↔r∈T.D\/r=q++[c]:=λr=>by unfold Tree.add;simp
 have J:∀r∈T.D,r≠q++[c]:=λr Q e=>L (e▸Q);have H:∀r∈T.D,r≠q->(T.add q c xb aC s).K r=T.K r:=λr Q Sp=>by
  show aI (aI T.K q _) (q++[c]) [] r=_;rw[aS (J r Q),aS Sp]
 have U:(T.add q c xb aC s).K q=T.K q++[c]:=by
  show aI (aI T.K q _) (q++[c]) [] q=_;rw[aS (J q C),cB]
 have I:(T.add q c xb aC s).K (q++[c])=[]:=cB _ _ _;refine⟨?_,(y _).2 (.inl h.root),λp hp d=>?_,λp hp=>?_,λp d g=>?_,λp hp=>?_,λp hp=>?_,λp hp=>?_,λp d g=>?_,?_,?_,λp hp=>?_⟩
 .refine nodup_append.2 ⟨h.nodup,by simp,λa ha b G e=>?_⟩;simp only[mem_singleton]at G;subst e G;exact L ha
 .rw[y];rcases(y p).1 hp with hp|rfl
  .by_cases e:p=q
   .subst e;rw[U,mem_append,h.kids p C d];simp only[mem_singleton];constructor
    .rintro(i|rfl)
     .exact .inl i
     .exact .inr rfl
    .rintro(i|i)
     .exact .inl i
     .exact .inr (by simpa using i)
   .rw[H p hp e,h.kids p hp d];refine⟨.inl,λi=>i.resolve_right λe2=>e (append_inj' e2 rfl).1⟩
  .rw[I];refine⟨λi=>(by cases i),?_⟩;rintro(i|i)
   .exact absurd (h.up _ _ i) L
   .have:=congrArg List.length i;simp at this
 .rcases(y p).1 hp with hp|rfl
  .by_cases e:p=q
   .subst e;rw[U];refine nodup_append.2 ⟨h.IB p C,by simp,λa ha b G e=>?_⟩;simp only[mem_singleton]at G;subst e G;exact L ((h.kids _ C _).1 ha)
   .rw[H p hp e];exact h.IB p hp
  .rw[I];exact List.nodup_nil
 .rcases(y _).1 g with g|g
  .exact(y _).2 (.inl (h.up _ _ g))
  .obtain⟨rfl,_⟩:=append_inj' g rfl;exact(y _).2 (.inl C)
 .rcases(y p).1 hp with hp|rfl
  .exact h.len p hp
  .simp;omega
 .rcases(y p).1 hp with hp|rfl
  .exact h.ZD p hp
  .refine lQ.2 λd g=>?_;rcases mem_append.1 g with g|g
   .exact lQ.1 (h.ZD q C) d g
   .simp only[mem_singleton]at g;subst g;exact hc
 .rcases(y p).1 hp with hp|rfl
  .exact h.size p hp
  .exact hs
 .show(aI T.M (q++[c]) aC (p++[d])).length=_;rcases(y _).1 g with g|g
  .rw[aS (J _ g)];exact h.ml p d g
  .rw[g,cB];obtain⟨_,e⟩:=append_inj' g rfl;simp only[List.cons.injEq,and_true]at e;rw[e];exact hm
 .show aI T.M (q++[c]) aC []=[];rw[aS (J _ h.root)];exact h.m0
 .show(T.D++[q++[c]]).length<=5000;rw[length_append,List.length_singleton];exact hf
 .show ∀j∈aI T.M (q++[c]) aC p,-1<=j;rcases(y p).1 hp with hp|rfl
  .rw[aS (J p hp)];exact h.mge p hp
  .rw[cB];exact Y
def Tf{M:Path->List Int}{p:Path}{v:List Int}{D:List Path}(h:p∉D):D.flatMap (aI M p v)=D.flatMap M:=by
 induction D with
 |nil=>rfl
 |cons r D g=>
  rw[flatMap_cons,flatMap_cons,g λi=>h (by simp[i]),aS λe=>h (by simp[e])]
def jz.add{B:Int}{es:List aj}{ms C:dq}{tk:Path->List bY}{ct:Path->List Nat}(h:jz B T es ms tk ct)(hq:q∈T.D)(H:q++[c]∉T.D)(hl:q.length<16)(hc:tE c)(hs:ah (q++[c])<=100)(hm:aC.length=aQ c)(hf:T.D.length+1<=5000)(Y:fE es C (aC++T.D.flatMap T.M))(hk:iD ms C)(U:kG C aC 0 c)(I:∀j,((dI es c (aE es q) j:Nat):Int)<=B)(Q:∀j∈aC,-1<=j):
  jz B (T.add q c xb aC s) es C (aI tk (q++[c]) (stepT es c (aE es q))) (aI ct (q++[c]) (km es c (aE es q))):=by
 have G:∀r,r∈(T.add q c xb aC s).D↔r∈T.D\/r=q++[c]:=λr=>by unfold Tree.add;simp
 have L:∀r∈T.D,r≠q++[c]:=λr hr e=>H (e▸hr);have J:∀{p:Path} {d:ae},p++[d]=q++[c]->p=q/\d=c:=λe=>by
  obtain⟨y,i⟩:=append_inj' e rfl;simp only[List.cons.injEq,and_true]at i;exact⟨y,i⟩
 refine⟨h.tree.add hq H hl hc hs hm hf Q,?_,λp d g=>?_,⟨λp hp=>?_,λp d g=>?_,λp d g=>?_⟩⟩
 .refine Y.perm ?_;show(aC++T.D.flatMap T.M).Perm ((T.D++[q++[c]]).flatMap (aI T.M (q++[c]) aC));rw[flatMap_append,Tf H];simpa using List.perm_append_comm
 .show kG C (aI T.M (q++[c]) aC (p++[d])) 0 d;rcases(G _).1 g with g|g
  .rw[aS (L _ g)];exact Cd hk d 0 (h.fit p d g)
  .obtain⟨y,i⟩:=J g;rw[g,cB,i];exact U
 .rcases(G p).1 hp with hp|rfl
  .rw[aS (L p hp)];exact h.dW.tok p hp
  .rw[cB,dv]
 .rcases(G _).1 g with g|g
  .rw[aS (L _ g)];exact h.dW.cnt p d g
  .obtain⟨y,i⟩:=J g;rw[g,cB,y,i]
 .rcases(G _).1 g with g|g
  .exact h.dW.le p d g
  .obtain⟨y,i⟩:=J g;rw[y,i];exact I
def sW(c:ae)(f:Fl)(aC:List Int)(ft:Fl)(ts:List bY)(fk:Fl)(e:List Nat):mr:=⟨c,.sh,.sh,.sh,none,0,0,f,aC,ft,ts,fk,e,0,.nil,[],.nil,[]⟩
def cj.abz{tk:Path->List bY}{ct:Path->List Nat}{fr:Path->List bY}{mn:Path->List Nat}(h:sf T)(hq:q∈T.D)(hn:q++[c]∉T.D){f ft fk:Fl}{ts:List bY}{i:List Nat}{L:List aO}{μ:Mem}(hO:Ow (cj T tk ct fr mn::Pt xb 126 (sW c f aC ft ts fk i).pv::L) μ){K:Mem->Prop}
  (hK:∀s Y,Ow (cj (T.add q c xb aC s) (aI tk (q++[c]) ts) (aI ct (q++[c]) i) (aI fr (q++[c]) []) (aI mn (q++[c]) [])::L) Y->K Y):
  eB 1 8 110 (T.S q).1 (T.K q).length (T.S q).2 (.list 1 .nr [[pP xb 0]]) μ (λa n' y u=>stM (T.B q) 7 [.raw (.slice a n' y)] u K):=by
 have Hu:=h.kl hq;have BV:=h.EG;obtain⟨A,B,F,e,h1⟩:=cj.out hq hO;have h2:Ow (Hq T q::Pt (T.B q) 126 (gK T tk ct fr mn q F).pv::Ow ((A++B).map (et T tk ct fr mn))::Pt xb 126 (sW c f aC ft ts fk i).pv::L) μ:=h1.swap;have sS:(ig T q).length=(T.K q).length:=by simp
 obtain⟨a,c0,ep,kE⟩:=ca.app h2 (λr H=>by obtain⟨d,_,rfl⟩:=mem_map.1 H;rfl);obtain⟨e1,_,e3⟩:(T.S q).1=a/\(T.K q).length=(ig T q).length/\(T.S q).2=c0:=by
  simp only[PV.raw.injEq,Value.slice.injEq]at ep;exact ep
 rw[<- e1,sS,<- e3]at kE;refine kE [pP xb 0] 8 (λa n' y u=>stM (T.B q) 7 [.raw (.slice a n' y)] u K) rfl rfl (by omega) (by omega) λG y μ2 h3=>?_;refine h3.st 1 rfl (by simp) λu h4=>hK (some ⟨G,0,none⟩,y) u ?_;have aW:∀r∈T.D,r≠q++[c]:=λr H e=>hn (e▸H);have IN:(A++q::B).Nodup:=by rw[<- e];exact h.nodup
 have Sp:∀r∈A++B,r∈T.D/\r≠q:=λr H=>by
  obtain⟨n1,n2,n3⟩:=nodup_append.1 IN;refine⟨by rw[e];rcases mem_append.1 H with h|h<;>simp[h],?_⟩;rintro rfl;rcases mem_append.1 H with h|h
  .exact n3 r h r (by simp) rfl
  .exact(nodup_cons.1 n2).1 h
 generalize hs:((some ⟨G,0,none⟩,y):Option Addr×Nat)=s;have Gh:s.1=some ⟨G,0,none⟩:=by rw[<- hs]
 have Ao:s.2=y:=by rw[<- hs]
 generalize C:T.add q c xb aC s=g;have J:∀r,r≠q++[c]->g.B r=T.B r:=λr H=>by rw[<- C];exact aS H
 have hold:(A++B).map (et g (aI tk (q++[c]) ts) (aI ct (q++[c]) i) (aI fr (q++[c]) []) (aI mn (q++[c]) []))=(A++B).map (et T tk ct fr mn):=map_congr_left λr H=>by
  obtain⟨Qn,Ex⟩:=Sp r H;have Q:=aW r Qn;refine cj.LI (J r Q) (by rw[<- C];exact aS Q) (by rw[<- C];exact aS Q) ?_ ?_ (λd hd=>J _ (aW _ ((h.kids r Qn d).1 hd))) (aS Q) (aS Q) (aS Q) (aS Q)
  .rw[<- C];show aI (aI T.K q _) (q++[c]) [] r=_;rw[aS Q,aS Ex]
  .rw[<- C];show aI (aI T.S q _) (q++[c]) _ r=_;rw[aS Q,aS Ex]
 have U:=aW q hq;have YB:g.K q=T.K q++[c]:=by
  rw[<- C];show aI (aI T.K q _) (q++[c]) [] q=_;rw[aS U,cB]
 have hSq:g.S q=s:=by
  rw[<- C];show aI (aI T.S q _) (q++[c]) _ q=_;rw[aS U,cB]
 have hKn:g.K (q++[c])=[]:=by rw[<- C];exact cB _ _ _
 have hSn:g.S (q++[c])=(none,0):=by rw[<- C];exact cB _ _ _
 have hBn:g.B (q++[c])=xb:=by rw[<- C];exact cB _ _ _
 have hMn:g.M (q++[c])=aC:=by rw[<- C];exact cB _ _ _
 have hEn:g.E (q++[c])=0:=by rw[<- C];exact cB _ _ _
 have hMq:g.M q=T.M q:=by rw[<- C];exact aS U
 have hEq:g.E q=T.E q:=by rw[<- C];exact aS U
 have aia:(gK g (aI tk (q++[c]) ts) (aI ct (q++[c]) i) (aI fr (q++[c]) []) (aI mn (q++[c]) []) q F).pv=du (gK T tk ct fr mn q F).pv 7 [.raw (.slice (some ⟨G,0,none⟩) ((T.K q).length+1) y)]:=by
  unfold gK mr.pv;rw[YB,hSq,hMq,hEq,aS U,aS U,aS U,aS U,Gh,Ao,length_append];rfl
 have hVq:Hq g q=ca 110 1 (.raw (.slice (some ⟨G,0,none⟩) ((T.K q).length+1) y)) (ig T q++[[pP xb 0]]):=by
  unfold Hq ig;rw[YB,hSq,Gh,Ao,length_append,map_append,map_cons,map_nil,hBn];rw[map_congr_left λd hd=>by rw[J _ (aW _ ((h.kids q hq d).1 hd))]];rfl
 have aib:(gK g (aI tk (q++[c]) ts) (aI ct (q++[c]) i) (aI fr (q++[c]) []) (aI mn (q++[c]) []) (q++[c]) ⟨.sh,.sh,.sh,f,ft,fk,.nil,.nil⟩).pv=(sW c f aC ft ts fk i).pv:=by
  unfold gK sW mr.pv;simp only[oX,cB,hKn,hSn,hMn,hEn];rfl
 have hVn:Hq g (q++[c])=ca 110 1 (.raw (.slice none 0 0)) []:=by
  unfold Hq ig;rw[hKn,hSn];rfl
 have h5:Ow (Pt (T.B q) 126 (du (gK T tk ct fr mn q F).pv 7 [.raw (.slice (some ⟨G,0,none⟩) ((T.K q).length+1) y)])::ca 110 1 (.raw (.slice (some ⟨G,0,none⟩) ((T.K q).length+1) y)) (ig T q++[[pP xb 0]])::Ow ((A++B).map (et T tk ct fr mn))::Pt xb 126 (sW c f aC ft ts fk i).pv::L) u:=h4.swap;have h6:Ow (et g (aI tk (q++[c]) ts) (aI ct (q++[c]) i) (aI fr (q++[c]) []) (aI mn (q++[c]) []) q::Ow ((A++B).map (et g (aI tk (q++[c]) ts) (aI ct (q++[c]) i) (aI fr (q++[c]) []) (aI mn (q++[c]) [])))::et g (aI tk (q++[c]) ts) (aI ct (q++[c]) i) (aI fr (q++[c]) []) (aI mn (q++[c]) []) (q++[c])::L) u:=by
  rw[hold];have h7:Ow ([Pt (T.B q) 126 (du (gK T tk ct fr mn q F).pv 7 [.raw (.slice (some ⟨G,0,none⟩) ((T.K q).length+1) y)]),ca 110 1 (.raw (.slice (some ⟨G,0,none⟩) ((T.K q).length+1) y)) (ig T q++[[pP xb 0]])]++(Ow ((A++B).map (et T tk ct fr mn))::Pt xb 126 (sW c f aC ft ts fk i).pv::L)) u:=h5;have g1:∀I,Ow [Pt (T.B q) 126 (du (gK T tk ct fr mn q F).pv 7 [.raw (.slice (some ⟨G,0,none⟩) ((T.K q).length+1) y)]),ca 110 1 (.raw (.slice (some ⟨G,0,none⟩) ((T.K q).length+1) y)) (ig T q++[[pP xb 0]])] I->et g (aI tk (q++[c]) ts) (aI ct (q++[c]) i) (aI fr (q++[c]) []) (aI mn (q++[c]) []) q I:=λI j=>⟨F,by rw[aia,hVq,J q U];exact j⟩;have g2:∀I,Ow [Pt xb 126 (sW c f aC ft ts fk i).pv,ca 110 1 (.raw (.slice none 0 0)) []] I->et g (aI tk (q++[c]) ts) (aI ct (q++[c]) i) (aI fr (q++[c]) []) (aI mn (q++[c]) []) (q++[c]) I:=λI j=>⟨⟨.sh,.sh,.sh,f,ft,fk,.nil,.nil⟩,by rw[aib,hVn,hBn];exact j⟩;refine(h7.pack.imp g1).tail λI j=>j.tail λν2 h8=>?_;have h9:Ow ([Pt xb 126 (sW c f aC ft ts fk i).pv,ca 110 1 (.raw (.slice none 0 0)) []]++L) ν2:=h8.tail λ_ h=>ca.nil _ _ h;exact h9.pack.imp g2
 unfold cj;have hD:g.D=A++q::(B++[q++[c]]):=by
  rw[<- C];show T.D++[q++[c]]=_;rw[e];simp
 rw[hD,map_append,map_cons,map_append];refine Ow.pack ?_;rw[append_assoc];refine Ow.Mu (L1:=A.map (et g (aI tk (q++[c]) ts) (aI ct (q++[c]) i) (aI fr (q++[c]) []) (aI mn (q++[c]) []))) (L:=(B.map (et g (aI tk (q++[c]) ts) (aI ct (q++[c]) i) (aI fr (q++[c]) []) (aI mn (q++[c]) []))++[q++[c]].map (et g (aI tk (q++[c]) ts) (aI ct (q++[c]) i) (aI fr (q++[c]) []) (aI mn (q++[c]) [])))++L) (h6.tail λI j=>?_);have h7:=j.nest;rw[map_append,append_assoc]at h7;rw[append_assoc];exact h7
end
def dG(B:Int)(es:List aj)(l:List ae):Prop:=∃(i:Nat) (h:i<l.length) (j:Nat),B<((dI es l[i] (aE es (l.take i)) j:Nat):Int)
inductive vb(B M:Int)(es:List aj)(ps:List Prod)(p:Prod):Int->List Prod->Prop
 |form (h:(b_ p).2.1≠0):vb B M es ps p (b_ p).2.1 ps
 |there (h:(b_ p).2.1=0) (h2:(aL bc eQ p.name ps).isSome):vb B M es ps p 3 ps
 |dW (h:(b_ p).2.1=0) (h2:aL bc eQ p.name ps=none) (h3:dG B es p.conds):vb B M es ps p 25 ps
 |eb (h:(b_ p).2.1=0) (h2:aL bc eQ p.name ps=none) (h3:¬dG B es p.conds) (h4:M<((cJ es ps+(aE es p.conds).length:Nat):Int)):vb B M es ps p 26 ps
 |ok (h:(b_ p).2.1=0) (h2:aL bc eQ p.name ps=none) (h3:¬dG B es p.conds) (h4:((cJ es ps+(aE es p.conds).length:Nat):Int)<=M):vb B M es ps p 0 (aZ bc eQ p ps)
def MT{T:Tree}(h:sf T){e:Path->Nat}(j:∀r∈T.D,e r=T.B r){l:Path}(g:l∈T.D):dQ e l=dQ T.B l:=by
 unfold dQ;exact map_congr_left λi _=>j _ (h.OG g (take_prefix _ _))
theorem Rx{T:Tree}(h:sf T){B':Path->Nat}(hB:∀r∈T.D,B' r=T.B r){ps:List Prod}(hl:∀q∈ps,q.conds∈T.D):ps.map (gl B')=ps.map (gl T.B):=
 map_congr_left λq hq=>by unfold gl;rw[MT h hB (hl q hq)]
theorem EB(B:Path->Nat)(s:ByteArray)(ps:List Prod):aL RP.ck RP.key (RP.key (s,RP.z)) (ps.map (gl B))=(aL bc eQ s ps).map (gl B):=oa
theorem ta.u{x:NC}{T:Tree}{es:List aj}{ms:dq}{ids:pq}{tk:Path->List bY}{ct:Path->List Nat}{ps:List Prod}{w:Nat}{W:Path->Prop}(h:ta x T es ms ids tk ct ps w W):ch RP.ck RP.key (ps.map (gl T.B)):=ch.map h.Dc
section
variable {n:Nat} {x:NC} {es:List aj} {ms:dq} {ids:pq} {T:Tree} {tk:Path->List bY} {ct:Path->List Nat} {fr:Path->List bY} {mn:Path->List Nat} {ps:List Prod} {w:Nat} {W:Path->Prop}
def ta.mono(h:ta x T es ms ids tk ct ps w W){w':Nat}(g:w<=w'){e:Path->Prop}(i:∀r,W r->e r):ta x T es ms ids tk ct ps w' e:=
 ⟨h.core,λr G C y=>h.Dj r G C λj=>y (i r j),h.ids,h.root,h.tb,h.mb,h.Dc,h.Ee,h.pD,h.ends,h.tags,le_trans h.Kb g,by have:=h.dl;omega⟩
def EM(h:ta x T es ms ids tk ct ps w W){q:Prod}(e:q∈ps):0<T.E q.conds:=by
 rw[h.ends _ (h.pD q e)];exact List.length_pos_of_mem (mem_filter.2 ⟨e,by simp⟩)
def ta.KU(h:ta x T es ms ids tk ct ps w W){e:Tree}{y:dq}(j:jz x.T e es y tk ct)(G:UF e λ_=>False)(I:e.B=T.B)(H:e.E=T.E)(g:∀r∈e.D,r∈T.D)(C:∀r∈T.D,0<T.E r->r∈e.D):ta x e es y ids tk ct ps w λ_=>False:=
 ⟨j,G,h.ids,by rw[I];exact h.root,h.tb,h.mb,h.Dc,h.Ee,λq i=>C _ (h.pD q i) (EM h i),λp hp=>by rw[H];exact h.ends p (g p hp),h.tags,h.Kb,le_trans (jE j.tree.nodup g) h.dl⟩
def ta.add{q:Path}{c:ae}{xb:Nat}{aC:List Int}{s:Option Addr×Nat}{i:dq}(h:ta x T es ms ids tk ct ps w (λr=>r <+: q))(hq:q∈T.D)(G:q++[c]∉T.D)(hl:q.length<16)(hc:tE c)(hs:ah (q++[c])<=100)(hm:aC.length=aQ c)(hf:T.D.length+1<=5000)(Y:fE es i (aC++T.D.flatMap T.M))(hk:iD ms i)(U:kG i aC 0 c)(H:∀j,((dI es c (aE es q) j:Nat):Int)<=x.T)(I:T.D.length+1<=1+16*w)(Q:∀j∈aC,-1<=j):
  ta x (T.add q c xb aC s) es i ids (aI tk (q++[c]) (stepT es c (aE es q))) (aI ct (q++[c]) (km es c (aE es q))) ps w (λr=>r <+: q++[c]):=by
 have L:∀r,r∈(T.add q c xb aC s).D↔r∈T.D\/r=q++[c]:=λr=>by unfold Tree.add;simp
 have y:∀r∈T.D,r≠q++[c]:=λr C e=>G (e▸C);refine⟨h.core.add hq G hl hc hs hm hf Y hk U H Q,λr C Gi g=>?_,h.ids,?_,h.tb,h.mb,h.Dc,h.Ee,λp hp=>(L _).2 (.inl (h.pD p hp)),λp hp=>?_,h.tags,h.Kb,?_⟩
 .have g:¬r <+: q++[c]:=g;have J:r∈T.D:=((L r).1 C).resolve_right λe=>g (by rw[e];exact prefix_refl _);have Sp:r≠q:=λe=>g (by rw[e];exact prefix_append _ _);have h1:=h.Dj r J Gi λh2=>g (List.IsPrefix.trans h2 (prefix_append _ _));show aI (aI T.K q _) (q++[c]) [] r≠[]\/0<aI T.E (q++[c]) 0 r;rw[aS (y r J),aS Sp,aS (y r J)];exact h1
 .show x.root=aI T.B (q++[c]) xb [];rw[aS (y _ h.core.tree.root)];exact h.root
 .show aI T.E (q++[c]) 0 p=_;rcases(L p).1 hp with hp|rfl
  .rw[aS (y p hp)];exact h.ends p hp
  .rw[cB];symm;rw[List.length_eq_zero_iff,List.filter_eq_nil_iff];intro p hp e;have e:p.conds=q++[c]:=by simpa using e
   exact G (e▸h.pD p hp)
 .show(T.D++[q++[c]]).length<=_;rw[length_append,List.length_singleton];exact I
def Tree.ends(T:Tree)(p:Path)(v:Nat):Tree:=⟨T.D,T.B,T.M,aI T.E p v,T.K,T.S⟩
def sf.ends{p:Path}{v:Nat}(h:sf T):sf (T.ends p v):=⟨h.nodup,h.root,h.kids,h.IB,h.up,h.len,h.ZD,h.size,h.ml,h.m0,h.EG,h.mge⟩
def jz.ends{B:Int}{p:Path}{v:Nat}(h:jz B T es ms tk ct):jz B (T.ends p v) es ms tk ct:=⟨h.tree.ends,h.use,h.fit,⟨h.dW.tok,h.dW.cnt,h.dW.le⟩⟩
def cj.ends{p:Path}{v:Nat}{A B:List Path}{F:Fls}(i:T.D.Nodup)(e:T.D=A++p::B){L:List aO}{g:Mem}(h:Ow (Pt (T.B p) 126 (du (gK T tk ct fr mn p F).pv 11 [pI ((v:Nat):Int)])::Hq T p::Ow ((A++B).map (et T tk ct fr mn))::L) g):Ow (cj (T.ends p v) tk ct fr mn::L) g:=by
 refine cj.in_ (T:=T.ends p v) e (F:=F) ?_;have G:(A++B).map (et (T.ends p v) tk ct fr mn)=(A++B).map (et T tk ct fr mn):=map_congr_left λr H=>by
  have I:r≠p:=by
   rintro rfl;rw[e]at i;obtain⟨J,y,j⟩:=nodup_append.1 i;rcases mem_append.1 H with h|h
   .exact j r h r (by simp) rfl
   .exact(nodup_cons.1 y).1 h
  exact cj.LI (T:=T) (T':=T.ends p v) rfl rfl (aS I) rfl rfl (λ_ _=>rfl) rfl rfl rfl rfl
 rw[G];have C:(gK (T.ends p v) tk ct fr mn p F).pv=du (gK T tk ct fr mn p F).pv 11 [pI ((v:Nat):Int)]:=by
  unfold gK mr.pv Tree.ends;simp only[cB];rfl
 rw[C];exact h
def xG{a b:List Prod}(h:a.Perm b):cJ es a=cJ es b:=AN (h.map _)
def ta.put{p:Prod}(h:ta x T es ms ids tk ct ps w (λr=>r <+: p.conds))(hp:si p)(y:p.conds∈T.D)(J:aL bc eQ p.name ps=none)(I:ps.length+1<=w):ta x (T.ends p.conds (T.E p.conds+1)) es ms ids tk ct (aZ bc eQ p ps) w (λ_=>False):=by
 have G:=nZ (ck:=bc) (key:=eQ) bX (L:=ps) (x:=p) J;refine⟨h.core.ends,λr g Y _=>?_,h.ids,h.root,h.tb,h.mb,h.Dc.ins bX p,λq j=>?_,λq j=>?_,λr g=>?_,h.tags,?_,h.dl⟩
 .show T.K r≠[]\/0<aI T.E p.conds (T.E p.conds+1) r;by_cases e:r=p.conds
  .right;rw[e,cB];omega
  .rw[aS e];by_cases H:r <+: p.conds
   .left;obtain⟨s,i⟩:=H;cases s with
    |nil=>rw[append_nil]at i;exact absurd i e
    |cons d s=>
     have:r++[d]∈T.D:=h.core.tree.OG y ⟨s,by rw[<- i];simp⟩;have:=(h.core.tree.kids r g d).2 this;intro Q;rw[Q]at this;cases this
   .exact h.Dj r g Y H
 .rcases(bq bX).1 j with rfl|⟨C,_⟩
  .exact hp
  .exact h.Ee q C
 .rcases(bq bX).1 j with rfl|⟨C,_⟩
  .exact y
  .exact h.pD q C
 .show aI T.E p.conds (T.E p.conds+1) r=_;rw[(G.filter _).length_eq,filter_cons];by_cases e:r=p.conds
  .rw[e,cB,if_pos (by simp),length_cons,h.ends _ y]
  .rw[aS e,if_neg (by simpa using λU=>e U.symm),h.ends r g]
 .rw[G.length_eq,length_cons];exact I
end
section
variable {n:Nat} {x:NC} {es:List aj} {ps:List Prod} {w:Nat}
def Ks(B:Path->Nat)(l:Path){i:Nat}(g:i<l.length):dQ B (l.take (i+1))=dQ B (l.take i)++[B (l.take (i+1))]:=by
 unfold dQ;rw[length_take,length_take,min_eq_left (by omega),min_eq_left (by omega),range_succ,map_append];congr 1
 .refine map_congr_left λj e=>?_;have h:=mem_range.1 e;rw[take_take,take_take,min_eq_left (by omega),min_eq_left (by omega)]
 .simp[take_take]
end
def EL{ps:List Prod}(g:ch bc eQ ps){q:Prod}(h:q∈ps):ps.Perm (q::bu bc eQ (eQ q) ps):=by
 obtain⟨A,B,e,i,_⟩:=g.at_ bX h;rw[i]
 conv=>lhs;rw[e]
 exact List.perm_middle
section
variable {n:Nat} {x:NC} {es:List aj} {ms:dq} {ids:pq} {T:Tree} {tk:Path->List bY} {ct:Path->List Nat} {fr:Path->List bY} {mn:Path->List Nat} {ps:List Prod} {w:Nat} {W:Path->Prop}
def ta.drop(h:ta x T es ms ids tk ct ps w (λ_=>False)){q:Prod}(G:q∈ps):ta x (T.ends q.conds (T.E q.conds-1)) es ms ids tk ct (bu bc eQ (eQ q) ps) w (λr=>r <+: q.conds):=by
 have C:=EL h.Dc G;have y:∀r∈bu bc eQ (eQ q) ps,r∈ps:=λr g=>((ee bX).1 g).1;refine⟨h.core.ends,λr g J j=>?_,h.ids,h.root,h.tb,h.mb,h.Dc.del _,λr g=>h.Ee r (y r g),λr g=>h.pD r (y r g),λr g=>?_,h.tags,le_trans (length_filter_le _ _) h.Kb,h.dl⟩
 .have j:¬r <+: q.conds:=j;have I:r≠q.conds:=λe=>j (by rw[e];exact prefix_refl _);show T.K r≠[]\/0<aI T.E q.conds _ r;rw[aS I];exact h.Dj r g J λh=>h
 .show aI T.E q.conds _ r=_;have i:=h.ends r g;rw[(C.filter _).length_eq,filter_cons]at i;by_cases e:r=q.conds
  .rw[if_pos (by simp[e]),length_cons]at i;rw[e]at i |-;rw[cB,i];rfl
  .rw[if_neg (by simpa using λH=>e H.symm)]at i;rw[aS e,i]
theorem TK(hw:w<=100)(s:ByteArray){L:List aO}{μ:Mem}(hO:Ow (fi n x es ps w::L) μ){K:Kq}
  (jJ:∀q,aL bc eQ s ps=some q->∀μ',Ow (fi n x es (bu bc eQ s ps) w::L) μ'->K (pB true) μ')
  (Gl:aL bc eQ s ps=none->∀μ',Ow (fi n x es ps w::L) μ'->K (pB false) μ'):
  aa prog 54 [pP n 0,pS s] μ K:=by
 obtain⟨T,ms,ids,tk,ct,fr,mn,⟨hR,mF⟩,h1⟩:=fi.open_ hO;have amG:=hR.Kb;refine wO.c ?_;refine⟨_,aH (an.xt (x:=x) (es:=es) (ms:=ms) (ids:=ids) h1 (by simp)) (by simp),?_⟩;refine RP.kH (Ow.at 2 rfl h1) hR.u (by rw[length_map];omega) s (λy u hy h2=>?_) (λu hy h2=>?_)
 .rw[EB]at hy;obtain⟨q,hq,rfl⟩:=Option.map_eq_some_iff.1 hy;obtain⟨hqm,hqn⟩:=(bf bX hR.Dc).1 hq;obtain⟨_,_,_,_,_,g1,g2⟩:=(hR.Ee q hqm).facts;have sd:=hR.pD q hqm;have hE:=EM hR hqm;have ajj:T.E q.conds<=100:=by
   rw[hR.ends _ sd];exact le_trans (length_filter_le _ _) (by omega)
  obtain⟨w1,w2⟩:=Ae T.B g1 (by omega);refine⟨_,_,_,_,_,_,_,_,rfl,ab.f rfl ⟨w2,_,w1,_,rfl,?_⟩⟩;dsimp only[nP,nn,aM];have e1:bu RP.ck RP.key (RP.key (s,RP.z)) (ps.map (gl T.B))=(bu bc eQ s ps).map (gl T.B):=wo;rw[e1]at h2;have h3:Ow (cj T tk ct fr mn::an n x es ms ids::RP.cy x.pr ((bu bc eQ s ps).map (gl T.B))::RT.At x.el es::L) u:=Ow.ord [2,1] h2;obtain⟨A,B,F,eD,h4⟩:=cj.out sd h3;refine⟨_,h4.rd 0 rfl (by simp),?_⟩;refine h4.st 0 rfl (by simp) λu2 h5=>?_;have Yc:wrap .i64 (((T.E q.conds:Nat):Int)-1)=((T.E q.conds-1:Nat):Int):=by rw[aD (by omega) (by omega)];omega
  rw[Yc]at h5;have h6:=cj.ends hR.core.tree.nodup eD h5;have ad6:s=eQ q:=hqn.symm;have hR2:ta x (T.ends q.conds (T.E q.conds-1)) es ms ids tk ct (bu bc eQ s ps) w (λr=>r <+: q.conds):=by rw[ad6];exact hR.drop hqm
  refine LM q.conds (by omega) hR2.core sd hR2.Dj hR2.root _ (Ow.swap h6) λT' XS u5 hC3 hN3 YC hE3 iQ pQ h7=>⟨rfl,?_⟩;refine jJ q hq _ (fi.shut (fr:=fr) (mn:=mn) (hR2.KU hC3 hN3 YC hE3 iQ pQ) ?_ ?_)
  .have h8:=xG (es:=es) (EL hR.Dc hqm);rw[<- ad6]at h8;have h9:cJ es (q::bu bc eQ s ps)=(aE es q.conds).length+cJ es (bu bc eQ s ps):=by unfold cJ;simp
   omega
  .show Ow (an n x es XS ids::cj T' tk ct fr mn::RP.cy x.pr ((bu bc eQ s ps).map (gl T'.B))::RT.At x.el es::L) u5;rw[YC];exact h7
 .rw[EB]at hy;refine⟨_,_,_,_,_,_,_,_,rfl,ab.t rfl (Gl ?_ u (fi.shut (fr:=fr) (mn:=mn) hR mF (Ow.ord [1,1] h2)))⟩;cases hg:aL bc eQ s ps with
  |some z=>rw[hg]at hy;cases hy
  |none=>rfl
end
def ti(e:aj):Bool:=(e.id.k == 1)&&((e.attr.k != 1)&&(fU e.id&&(fU e.attr&&fU e.value)))
def PI(e:aj):Pure prog 72 [.agg e.pv] (pB (ti e)):=by
 refine av.of (JY.c ?_);unfold ti;refine ab.mk (λj=>ab.mk (λi=>(GH e.id).call ⟨_,rfl,ab.mk (λh=>(GH e.attr).call ⟨_,rfl,ab.mk (λg=>(GH e.value).call ⟨_,rfl,?_⟩) (λg=>?_)⟩) (λh=>?_)⟩) (λi=>?_)) (λj=>?_)<;>simp_all [wk,cb]
def LL(e:aj):Pure prog 92 [.agg e.pv] (pB (ti e)):=by
 refine av.of (ss.c ?_);unfold ti;refine(yv e.id).call ⟨_,rfl,ab.mk (λj=>ab.mk (λi=>(yw e.attr).call ⟨_,rfl,ab.mk (λg=>(yv e.value).call ⟨_,rfl,?_⟩) (λg=>?_)⟩) (λi=>?_)) (λj=>?_)⟩<;>simp_all [wk,cb,mh]
 all_goals (first|(intro _ h;exact g h)|grind)
def fG(ms e:dq):Prop:=∀k,(aL aw bU k e).map (λy=>(y.2.c,y.2.aN))=(aL aw bU k ms).map (λy=>(y.2.c,y.2.aN))
def fG.refl(ms:dq):fG ms ms:=λ_=>rfl
def fG.trans{a b c:dq}(h:fG a b)(k:fG b c):fG a c:=λj=>(k j).trans (h j)
def fG.map{ms:dq}{f:Int×eF->Int×eF}(g:∀y,(f y).1=y.1/\(f y).2.c=y.2.c/\(f y).2.aN=y.2.aN):fG ms (ms.map f):=λk=>by
 have e:aL aw bU k (ms.map f)=(aL aw (λy=>bU (f y)) k ms).map f:=oa;have h:(λy=>bU (f y))=bU:=funext λy=>(g y).1;rw[e,h,Option.map_map];congr 1;funext y;show((f y).2.c,(f y).2.aN)=_;rw[(g y).2.1,(g y).2.2]
def fG.mem{a b:dq}(h:fG a b):iD a b:=λj d ⟨y,g,i⟩=>by
 have:=h j;rw[g]at this;cases e:aL aw bU j b with
 |none=>rw[e]at this;cases this
 |some z=>
  rw[e]at this;simp only[Option.map_some,Option.some.injEq,Prod.mk.injEq]at this;exact⟨z,e,this.1.trans i⟩
def fG.aN{a b:dq}(h:fG a b)(k:Int):fV k b=fV k a:=by
 have:=congrArg (λo:Option (ae×Int)=>(o.map (·.2)).getD 0) (h k);simp only[Option.map_map]at this;exact this
def fG.use{es e:List aj}{a b:dq}{l:List Int}(h:fG a b)(g:fE es a l)(j:dE e b):fE e b l:=⟨j,λk i=>by rw[h.aN k];exact g.use k i⟩
section
variable {n:Nat} {x:NC} {es:List aj} {ms:dq} {ids:pq}
theorem YP{oC:List aj}(hu:ch aw aF es)(hle:es.length<=1000000)(t:Int){L:List aO}{μ:Mem}(hO:Ow (an n x oC ms ids::RT.At x.el es::L) μ){K:Kq}
  (h1:∀e,aL aw aF t es=some e->K (.aB [.agg e.pv,pB true]) μ) (h0:aL aw aF t es=none->K (.aB [RT.zero,pB false]) μ):aa prog 73 [pP n 0,pI t] μ K:=by
 refine CM.c ?_;refine⟨_,aH (an.xt (x:=x) (es:=oC) (ms:=ms) (ids:=ids) hO (by simp)) (by simp),?_⟩;refine RT.ko (l:=es) (Ow.swap hO) hu (by omega) ⟨⟨0,⟨#[]⟩,0⟩,⟨0,⟨#[]⟩,0⟩,⟨0,⟨#[]⟩,0⟩,false,false,t⟩ (λy hy=>⟨_,_,_,_,_,_,_,_,_,_,_,_,_,rfl,h1 y hy⟩) (λhy=>⟨_,_,_,_,_,_,_,_,_,_,_,_,_,rfl,h0 hy⟩)
end
instance decSym:DecidableEq Sym:=λa b=>if h:Vm a b=true then isTrue ((vm a b).1 h)else isFalse λe=>h ((vm a b).2 e)
def jn.mk2{es:List aj}{ids:pq}(up:ch fQ jW ids)(has:∀x∈ids,x.2.2=es.filter λe=>fu e.id x.1)(one:∀e∈es,∃x∈ids,x.1=e.id)(some_:∀x∈ids,x.2.2≠[]):jn es ids:=by
 refine⟨up,has,one,some_,?_⟩;have h:=jE (a:=ids.map jW) (b:=es.map (·.id)) ?_ ?_
 .simpa using h
 .have g:(ids.map jW).Pairwise λa b=>fQ a b<0:=by rw[pairwise_map];exact up
  refine g.imp λ{a b} i e=>?_;rw[e]at i;exact absurd i (by rw[bI.self b];omega)
 .intro s C;obtain⟨y,j,rfl⟩:=mem_map.1 C;have g:=some_ y j;cases r:y.2.2 with
  |nil=>exact absurd r g
  |cons e l=>
   have:e∈es.filter λe=>fu e.id y.1:=by rw[<- has y j,r];simp
   obtain⟨H,G⟩:=mem_filter.1 this;exact mem_map.2 ⟨e,H,cH.1 G⟩
def LC{es:List aj}(i:ch aw aF es){e:aj}(C:aL aw aF e.tag es=none)(p:aj->Bool):(aZ aw aF e es).filter p=if p e then aZ aw aF e (es.filter p)else es.filter p:=by
 have r:=(bD ar).1 C;split
 .rename_i hp;refine ch.ext ar ((i.ins ar e).filter _) (ch.ins ar (i.filter _) e) λy=>?_;rw[bq ar,mem_filter,mem_filter,bq ar];constructor
  .rintro⟨rfl|⟨h,j⟩,g⟩
   .exact .inl rfl
   .exact .inr ⟨⟨h,g⟩,j⟩
  .rintro(rfl|⟨⟨h,g⟩,j⟩)
   .exact⟨.inl rfl,hp⟩
   .exact⟨.inr ⟨h,j⟩,g⟩
 .rename_i hp;refine ch.ext ar ((i.ins ar e).filter _) (i.filter _) λy=>?_;rw[mem_filter,mem_filter,bq ar];constructor
  .rintro⟨rfl|⟨h,j⟩,g⟩
   .exact absurd g hp
   .exact⟨h,g⟩
  .rintro⟨h,g⟩;exact⟨.inr ⟨h,r y h⟩,g⟩
def LD{es:List aj}(t:Int)(p:aj->Bool):(bu aw aF t es).filter p=bu aw aF t (es.filter p):=by
 unfold bu;rw[List.filter_filter,List.filter_filter];exact List.filter_congr λy _=>Bool.and_comm _ _
def mH(e:aj)(y:Sym×Nat×List aj):Sym×Nat×List aj:=if y.1=e.id then(y.1,y.2.1,aZ aw aF e y.2.2)else y
def nT(e:aj)(y:Sym×Nat×List aj):Sym×Nat×List aj:=if y.1=e.id then(y.1,y.2.1,bu aw aF e.tag y.2.2)else y
def yE(e:aj)(y:Sym×Nat×List aj):(mH e y).1=y.1/\(mH e y).2.1=y.2.1:=by unfold mH;split<;>exact⟨rfl,rfl⟩
def Bi(e:aj)(y:Sym×Nat×List aj):(nT e y).1=y.1/\(nT e y).2.1=y.2.1:=by unfold nT;split<;>exact⟨rfl,rfl⟩
def Xv(e:aj)(ids:pq):(ids.map (mH e)).map pJ=ids.map pJ:=by
 rw[map_map];exact map_congr_left λy _=>by
  show((mH e y).1,some (⟨(mH e y).2.1,0,none⟩:Addr))=_;rw[(yE e y).1,(yE e y).2];rfl
def Vy(e:aj)(ids:pq):(ids.map (nT e)).map pJ=ids.map pJ:=by
 rw[map_map];exact map_congr_left λy _=>by
  show((nT e y).1,some (⟨(nT e y).2.1,0,none⟩:Addr))=_;rw[(Bi e y).1,(Bi e y).2];rfl
theorem Ik{ids:pq}(hu:ch fQ jW ids){z:Sym×Nat×List aj}{A B:pq}(e:ids=A++z::B){f:Sym×Nat×List aj->Sym×Nat×List aj}(hf:∀y,y.1≠z.1->f y=y):ids.map f=A++f z::B:=by
 have hz:z∈ids:=by rw[e];simp
 have hA:∀y∈A,f y=y:=λy hy=>hf y λh=>by
  have:y=z:=hu.inj bI (by rw[e];simp[hy]) hz h;subst this;rw[e]at hu;have:=(pairwise_append.1 hu).2.2 y hy y (by simp);exact absurd this (by rw[bI.self];omega)
 have hB:∀y∈B,f y=y:=λy hy=>hf y λh=>by
  have:y=z:=hu.inj bI (by rw[e];simp[hy]) hz h;subst this;rw[e]at hu;have:=(pairwise_cons.1 (pairwise_append.1 hu).2.1).1 y hy;exact absurd this (by rw[bI.self];omega)
 rw[e,map_append,map_cons]
 have m1:A.map f=A:=by conv=>rhs;rw[<- map_id A]
                       exact map_congr_left hA
 have m2:B.map f=B:=by conv=>rhs;rw[<- map_id B]
                       exact map_congr_left hB
 rw[m1,m2]
section
variable {n:Nat} {x:NC} {es:List aj} {ms:dq} {ids:pq}
theorem an.Yb{L:List aO}{μ:Mem}(h:Ow (an n x es ms ids::L) μ):Ow (RI.cy x.id (ids.map pJ)::Pt n 116 x.pv::bH x.al es ms::(ids.map d_++L)) μ:=by
 have h1:Ow (Pt n 116 x.pv::bH x.al es ms::gR x.id ids::L) μ:=h.nest (L1:=[Pt n 116 x.pv,bH x.al es ms,gR x.id ids]);have h2:Ow (gR x.id ids::Pt n 116 x.pv::bH x.al es ms::L) μ:=Ow.ord [2] h1;have h3:Ow (RI.cy x.id (ids.map pJ)::(ids.map d_++(Pt n 116 x.pv::bH x.al es ms::L))) μ:=h2.nest (L1:=RI.cy x.id (ids.map pJ)::ids.map d_);exact h3.tail λν hν=>vF (ids.map d_) [Pt n 116 x.pv,bH x.al es ms] L hν
theorem an.Lh{L:List aO}{μ:Mem}(h:Ow (RI.cy x.id (ids.map pJ)::Pt n 116 x.pv::bH x.al es ms::(ids.map d_++L)) μ):Ow (an n x es ms ids::L) μ:=by
 have h3:Ow (RI.cy x.id (ids.map pJ)::(ids.map d_++(Pt n 116 x.pv::bH x.al es ms::L))) μ:=h.tail λν hν=>vF [Pt n 116 x.pv,bH x.al es ms] (ids.map d_) L hν;have h2:Ow (gR x.id ids::Pt n 116 x.pv::bH x.al es ms::L) μ:=Ow.pack (L1:=RI.cy x.id (ids.map pJ)::ids.map d_) h3;exact Ow.pack (L1:=[Pt n 116 x.pv,bH x.al es ms,gR x.id ids]) (Ow.ord [1,1,0] h2)
structure ajN(es:List aj)(ids:pq)(z:Sym×Nat×List aj):Prop where
 up:ch fQ jW ids
 has:∀y∈ids,y.2.2=es.filter λe=>fu e.id y.1
 one:∀e∈es,∃y∈ids,y.1=e.id
 at_:z∈ids
 some_:∀y∈ids,y.1≠z.1->y.2.2≠[]
theorem YL(hA:dE es ms)(hI:jn es ids){e:aj}(hn:aL aw aF e.tag es=none)(hle:es.length+1<1000000){L:List aO}{μ:Mem}(hO:Ow (an n x es ms ids::RT.At x.el es::L) μ){K:Kq}
  (hk:∀cF iG f μ',dE (aZ aw aF e es) cF->jn (aZ aw aF e es) iG->fG ms cF->Ow (an n x (aZ aw aF e es) cF iG::RT.At x.el (aZ aw aF e es)::L) μ'->K (.list 1 f ((eM e ms).map gu)) μ'):
  aa prog 80 [pP n 0,.agg e.pv] μ K:=by
 refine CL.c ?_;refine⟨_,aH (an.xt (x:=x) (es:=es) (ms:=ms) (ids:=ids) hO (by simp)) (by simp),?_⟩;refine RT.fX (l:=es) (Ow.swap hO) hA.xD (by omega) e λu h1=>⟨_,rfl,?_⟩;have Dp:dB RT.ck RT.key e es=aZ aw aF e es:=by
  rw[dB,show aL RT.ck RT.key (RT.key e) es=none from hn];rfl
 rw[Dp]at h1;refine⟨_,aH (an.xt (x:=x) (es:=es) (ms:=ms) (ids:=ids) h1 (by simp)) (by simp),?_⟩;have h2:=an.Yb (Ow.swap h1);have hil:=hI.le;have fin:∀(iP:pq) (z:Sym×Nat×List aj) (u2:Mem),ajN es iP z->z.1=e.id->Ow (RI.cy x.id (iP.map pJ)::Pt n 116 x.pv::bH x.al es ms::(iP.map d_++(RT.At x.el (aZ aw aF e es)::L))) u2->
   aa prog 74 [pP z.2.1 0,.agg e.pv] u2 λv_4 My=>∃(x38:Bool),v_4=(pB x38)/\∃(XG:Option Addr),ay My n (0+3) 1=some [(.raw (.pointer XG))]/\
     aa prog 136 [(.raw (.pointer XG)),.agg e.pv] My λv_5 XJ=>
     ∃(XF:Fl) (acu:Lq),∃(agW:Int),v_5=(.aB [(.list 1 XF acu),(pI agW)])/\K (.list 1 XF acu) XJ:=λiP z u2 hP hz h3=>by
  obtain⟨A,B,eA⟩:=List.append_of_mem hP.at_;have Ye:ch aw aF z.2.2:=by rw[hP.has z hP.at_];exact hA.xD.filter _
  have Ev:z.2.2.length<=es.length:=by rw[hP.has z hP.at_];exact length_filter_le _ _
  have hzn:aL aw aF e.tag z.2.2=none:=(bD ar).2 λy hy=>(bD ar).1 hn y (by rw[hP.has z hP.at_]at hy;exact(mem_filter.1 hy).1);have eS:iP.map d_=A.map d_++d_ z::B.map d_:=by rw[eA];simp
  rw[eS]at h3;have h4:=Ow.pick (P:=[RI.cy x.id (iP.map pJ),Pt n 116 x.pv,bH x.al es ms]) h3;refine RT.fX (l:=z.2.2) h4 Ye (by omega) e λu5 h5=>⟨_,rfl,?_⟩;have ad_:dB RT.ck RT.key e z.2.2=aZ aw aF e z.2.2:=by
   rw[dB,show aL RT.ck RT.key (RT.key e) z.2.2=none from hzn];rfl
  rw[ad_]at h5;have SF:iP.map (mH e)=A++mH e z::B:=Ik hP.up eA λy hy=>by unfold mH;rw[if_neg (by rw[<- hz];exact hy)]
  have haz:d_ (mH e z)=RT.At z.2.1 (aZ aw aF e z.2.2):=by unfold d_ mH;rw[if_pos hz]
  have h6:Ow (RI.cy x.id ((iP.map (mH e)).map pJ)::Pt n 116 x.pv::bH x.al es ms::((iP.map (mH e)).map d_++(RT.At x.el (aZ aw aF e es)::L))) u5:=by
   rw[Xv,SF,map_append,map_cons,haz];exact Ow.tn (P:=[RI.cy x.id (iP.map pJ),Pt n 116 x.pv,bH x.al es ms]) h5
  have h7:=an.Lh h6;have xz:jn (aZ aw aF e es) (iP.map (mH e)):=by
   refine jn.mk2 (ch.map (f:=mH e) (by rw[show(λy=>jW (mH e y))=jW from funext λy=>(yE e y).1];exact hP.up)) (λy hy=>?_) (λe' Nq=>?_) (λy hy=>?_)
   .obtain⟨y,Lj,rfl⟩:=mem_map.1 hy;rw[(yE e y).1,LC hA.xD hn,<- hP.has y Lj];unfold mH;by_cases h:y.1=e.id
    .rw[if_pos h,if_pos (by rw[h];exact AL _)]
    .rw[if_neg h,if_neg λh2=>h (cH.1 h2).symm]
   .rcases(bq ar).1 Nq with rfl|⟨h,_⟩
    .exact⟨mH e' z,List.mem_map_of_mem hP.at_,(yE e' z).1.trans hz⟩
    .obtain⟨y,hy,hye⟩:=hP.one e' h;exact⟨mH e y,List.mem_map_of_mem hy,(yE e y).1.trans hye⟩
   .obtain⟨y,Lj,rfl⟩:=mem_map.1 hy;unfold mH;by_cases h:y.1=e.id
    .rw[if_pos h];intro h0;have:e∈aZ aw aF e y.2.2:=(bq ar).2 (.inl rfl);rw[show aZ aw aF e y.2.2=[]from h0]at this;cases this
    .rw[if_neg h];exact hP.some_ y Lj (by rw[hz];exact h)
  refine⟨_,aH (an.xt (x:=x) (es:=es) (ms:=ms) (ids:=iP.map (mH e)) h7 (by simp)) (by simp),?_⟩;refine afA (an.alpha h7) hA e (λhs=>by rw[hn]at hs;cases hs) λ_ u6 f h8=>⟨_,_,_,rfl,?_⟩;refine hk (ms.map (xU e)) (iP.map (mH e)) f u6 (hA.xU hn hle) xz (fG.map λy=>⟨rfl,rfl,rfl⟩) ?_;exact an.back h8
 refine RI.jx h2 hI.u (by simp;omega) e.id (λy u2 hy h3=>?_) (λu2 hy h3=>?_)
 .rw[LA]at hy;obtain⟨z,hz,rfl⟩:=Option.map_eq_some_iff.1 hy;obtain⟨Qj,Gb⟩:=(bf bI hI.up).1 hz;refine⟨_,_,rfl,λs u=>s=some ⟨z.2.1,0,none⟩/\u=u2,ab.f rfl ⟨rfl,rfl⟩,?_⟩;rintro s u' ⟨rfl,rfl⟩;exact fin ids z u' ⟨hI.up,hI.has,hI.one,Qj,λy hy _=>hI.some_ y hy⟩ Gb h3
 .rw[LA]at hy;have hz:aL fQ jW e.id ids=none:=map_none hy;have hzn:=(bD bI).1 hz;refine⟨_,_,rfl,λs u=>∃b,s=some ⟨b,0,none⟩/\Ow (RI.cy x.id ((aZ fQ jW (e.id,b,[]) ids).map pJ)::Pt n 116 x.pv::bH x.al es ms::((aZ fQ jW (e.id,b,[]) ids).map d_++(RT.At x.el (aZ aw aF e es)::L))) u,ab.t rfl ?_,?_⟩
  .refine RT.gB h3 .nil [] (by simp) λu3 b h4=>⟨_,rfl,?_⟩;dsimp only[nP,nn,aM];have h5:Ow (RI.cy x.id (ids.map pJ)::RT.At b []::Pt n 116 x.pv::bH x.al es ms::(ids.map d_++(RT.At x.el (aZ aw aF e es)::L))) u3:=h4.swap;refine⟨_,h5.rd 2 rfl (by simp),?_⟩;refine RI.nh h5 hI.u (by simp;omega) e.id (some ⟨b,0,none⟩) λu4 h6=>⟨_,rfl,b,rfl,?_⟩;have e2:aZ RI.ck RI.key (e.id,some ⟨b,0,none⟩) (ids.map pJ)=(aZ fQ jW (e.id,b,[]) ids).map pJ:=l_ (f:=pJ) (x:=(e.id,b,[]));rw[e2]at h6;have pO:((aZ fQ jW (e.id,b,[]) ids).map d_).Perm (RT.At b []::ids.map d_):=(nZ (ck:=fQ) (key:=jW) bI (x:=(e.id,b,[])) hz).map d_;refine h6.tail λν hν=>?_;have h7:Ow (Pt n 116 x.pv::bH x.al es ms::((RT.At b []::ids.map d_)++(RT.At x.el (aZ aw aF e es)::L))) ν:=Ow.ord [1,1,0] hν;exact h7.tail λ_ h=>h.tail λ_ h=>h.perm (pO.symm.append_right _)
  .rintro s u' ⟨b,rfl,h4⟩;refine fin _ (e.id,b,[]) u' ⟨hI.up.ins bI _,λy hy=>?_,λe' Nq=>?_,(bq bI).2 (.inl rfl),λy hy aW=>?_⟩ rfl h4
   .rcases(bq bI).1 hy with rfl|⟨h,_⟩
    .symm;rw[List.filter_eq_nil_iff];intro e' Nq hs;obtain⟨y,hy,hk⟩:=hI.one e' Nq;exact hzn y hy (hk.trans (cH.1 hs))
    .exact hI.has y h
   .obtain⟨y,hy,hk⟩:=hI.one e' Nq;exact⟨y,(bq bI).2 (.inr ⟨hy,hzn y hy⟩),hk⟩
   .rcases(bq bI).1 hy with rfl|⟨h,_⟩
    .exact absurd rfl aW
    .exact hI.some_ y h
theorem TN(hA:dE es ms)(hI:jn es ids){e:aj}(he:e∈es){L:List aO}{μ:Mem}(hO:Ow (an n x es ms ids::RT.At x.el es::L) μ){K:Kq}
  (hk:∀cF iG f μ',dE (bu aw aF e.tag es) cF->jn (bu aw aF e.tag es) iG->fG ms cF->Ow (an n x (bu aw aF e.tag es) cF iG::RT.At x.el (bu aw aF e.tag es)::L) μ'->K (.list 1 f ((eM e ms).map gu)) μ'):
  aa prog 78 [pP n 0,.agg e.pv] μ K:=by
 have hle:=hA.le;have hil:=hI.le;have SK:aL aw aF e.tag es=some e:=(bf ar hA.xD).2 ⟨he,rfl⟩;refine zW.c ?_;refine⟨_,aH (an.xt (x:=x) (es:=es) (ms:=ms) (ids:=ids) hO (by simp)) (by simp),?_⟩;refine RT.gC (l:=es) (Ow.swap hO) hA.xD (by omega) e λu h1=>⟨_,rfl,?_⟩;have SO:bu RT.ck RT.key (RT.key e) es=bu aw aF e.tag es:=rfl;rw[SO]at h1;refine⟨_,aH (an.xt (x:=x) (es:=es) (ms:=ms) (ids:=ids) h1 (by simp)) (by simp),?_⟩;have h2:=an.Yb (Ow.swap h1);refine RI.jx h2 hI.u (by simp;omega) e.id (λy u2 hy h3=>?_) (λu2 hy h3=>?_)
 .rw[LA]at hy;obtain⟨z,hz,rfl⟩:=Option.map_eq_some_iff.1 hy;obtain⟨Qj,Gb⟩:=(bf bI hI.up).1 hz;have Gb:z.1=e.id:=Gb;obtain⟨A,B,eA⟩:=List.append_of_mem Qj;have Ye:ch aw aF z.2.2:=by rw[hI.has z Qj];exact hA.xD.filter _
  have Ev:z.2.2.length<=es.length:=by rw[hI.has z Qj];exact length_filter_le _ _
  have eS:ids.map d_=A.map d_++d_ z::B.map d_:=by conv=>lhs;rw[eA]
                                                  simp
  rw[eS]at h3;have h4:=Ow.pick (P:=[RI.cy x.id (ids.map pJ),Pt n 116 x.pv,bH x.al es ms]) h3;have SF:ids.map (nT e)=A++nT e z::B:=Ik hI.up eA λy hy=>by unfold nT;rw[if_neg (by rw[<- Gb];exact hy)]
  have haz:d_ (nT e z)=RT.At z.2.1 (bu aw aF e.tag z.2.2):=by unfold d_ nT;rw[if_pos Gb]
  refine⟨_,_,rfl,λ_ u=>∃iG,jn (bu aw aF e.tag es) iG/\Ow (an n x es ms iG::RT.At x.el (bu aw aF e.tag es)::L) u,ab.t rfl ?_,?_⟩
  .refine RT.gC (l:=z.2.2) h4 Ye (by omega) e λu5 h5=>⟨_,rfl,RT.Ju h5 ⟨_,rfl,?_⟩⟩;have aeL:bu RT.ck RT.key (RT.key e) z.2.2=bu aw aF e.tag z.2.2:=rfl;rw[aeL]at h5 |-;have aeU:∀y∈ids,(nT e y).2.2=(bu aw aF e.tag es).filter λe'=>fu e'.id y.1:=λy hy=>by
    rw[LD,<- hI.has y hy];unfold nT;by_cases h:y.1=e.id
    .rw[if_pos h]
    .rw[if_neg h];symm;refine List.filter_eq_self.2 λe' Nq=>?_;rw[hI.has y hy]at Nq;obtain⟨h1,h2⟩:=mem_filter.1 Nq;simp only[Ck,Bool.not_eq_true',decide_eq_false_iff_not,ar.zero];intro ht;have:e'=e:=hA.xD.inj ar h1 he ht;rw[this]at h2;exact h (cH.1 h2).symm
   refine ab.mk (λh0=>?_) (λh0=>?_)
   .have tU:bu aw aF e.tag z.2.2=[]:=by
     refine List.eq_nil_of_length_eq_zero ?_;have:((((bu aw aF e.tag z.2.2).length:Nat):Int) == 0)=true:=h0;simpa using this
    refine⟨_,h5.rd 2 rfl (by simp),?_⟩;have h6:Ow (RI.cy x.id (ids.map pJ)::Pt n 116 x.pv::bH x.al es ms::((A.map d_++B.map d_)++(RT.At x.el (bu aw aF e.tag es)::L))) u5:=h5.drop;have aiA:bu fQ jW e.id ids=A++B:=by
     obtain⟨A',B',e1,e2,_⟩:=hI.up.at_ bI Qj;have e3:bu fQ jW e.id ids=A'++B':=by rw[<- Gb];exact e2
     have zh:∀y,y∈A++B↔y∈A'++B':=λy=>by
      rw[<- e3,ee bI];have hu:=hI.up;rw[eA]at hu;constructor
      .intro hyA;refine⟨by rw[eA];rcases mem_append.1 hyA with h|h<;>simp[h],λh=>?_⟩;have hyz:y=z:=hI.up.inj bI (by rw[eA];rcases mem_append.1 hyA with h|h<;>simp[h]) Qj (by rw[h];exact Gb.symm);subst hyz;rcases mem_append.1 hyA with h|h
       .have:=(pairwise_append.1 hu).2.2 y h y (by simp);exact absurd this (by rw[bI.self];omega)
       .have:=(pairwise_cons.1 (pairwise_append.1 hu).2.1).1 y h;exact absurd this (by rw[bI.self];omega)
      .rintro⟨h1,h2⟩;rw[eA,mem_append,mem_cons]at h1;rcases h1 with h|h|h
       .simp[h]
       .rw[h]at h2;exact absurd Gb h2
       .simp[h]
     have huA:ch fQ jW (A++B):=List.Pairwise.sublist (by rw[eA];exact(List.sublist_cons_self z B).append_left A) hI.up;have ahU:ch fQ jW (A'++B'):=by rw[<- e3];exact hI.up.del _
     rw[e3];exact(ch.ext bI huA ahU zh).symm
    refine RI.kH h6 hI.u (by simp;omega) e.id (λy2 u6 Gc h7=>⟨_,_,rfl,bu fQ jW e.id ids,?_,?_⟩) (λu6 Gc h7=>?_)
    .refine jn.mk2 (hI.up.del _) (λy hy=>?_) (λe' Nq=>?_) (λy hy=>?_)
     .obtain⟨Ni,Gc⟩:=(ee bI).1 hy;have:=aeU y Ni;unfold nT at this;rw[if_neg (show ¬y.1=e.id from Gc)]at this;exact this
     .obtain⟨h1,h2⟩:=(ee ar).1 Nq;obtain⟨y,hy,hye⟩:=hI.one e' h1;refine⟨y,(ee bI).2 ⟨hy,λh=>?_⟩,hye⟩;have hyz:y=z:=hI.up.inj bI hy Qj (by rw[h];exact Gb.symm);have h3:e'∈bu aw aF e.tag z.2.2:=by
       refine(ee ar).2 ⟨?_,h2⟩;rw[hI.has z Qj,<- hyz];exact mem_filter.2 ⟨h1,by rw[hye];exact AL _⟩
      rw[tU]at h3;cases h3
     .exact hI.some_ y ((ee bI).1 hy).1
    .have e4:bu RI.ck RI.key (RI.key (e.id,RI.z)) (ids.map pJ)=(bu fQ jW e.id ids).map pJ:=wo;rw[e4]at h7;refine an.Lh ?_;rw[aiA]at h7 |-;rw[map_append (f:=d_)];exact h7
    .exfalso;rw[LA,hz]at Gc;cases Gc
   .have aW:bu aw aF e.tag z.2.2≠[]:=by
     intro h;have:((((bu aw aF e.tag z.2.2).length:Nat):Int) == 0)=false:=h0;rw[h]at this;cases this
    refine⟨ids.map (nT e),?_,?_⟩
    .refine jn.mk2 (ch.map (f:=nT e) (by rw[show(λy=>jW (nT e y))=jW from funext λy=>(Bi e y).1];exact hI.up)) (λy hy=>?_) (λe' Nq=>?_) (λy hy=>?_)
     .obtain⟨y,Lj,rfl⟩:=mem_map.1 hy;rw[(Bi e y).1];exact aeU y Lj
     .obtain⟨y,hy,hye⟩:=hI.one e' ((ee ar).1 Nq).1;exact⟨nT e y,List.mem_map_of_mem hy,(Bi e y).1.trans hye⟩
     .obtain⟨y,Lj,rfl⟩:=mem_map.1 hy;by_cases h:y.1=e.id
      .have hyz:y=z:=hI.up.inj bI Lj Qj (by show y.1=z.1;rw[h,Gb]);subst hyz;unfold nT;rw[if_pos h];exact aW
      .unfold nT;rw[if_neg h];exact hI.some_ y Lj
    .refine an.Lh ?_;rw[Vy,SF,map_append,map_cons,haz];exact Ow.tn (P:=[RI.cy x.id (ids.map pJ),Pt n 116 x.pv,bH x.al es ms]) h5
  .rintro _ u5 ⟨iG,dP,h5⟩;refine⟨_,aH (an.xt (x:=x) (es:=es) (ms:=ms) (ids:=iG) h5 (by simp)) (by simp),?_⟩;refine abt (an.alpha h5) hA e.tag (λhs=>by rw[SK]at hs;cases hs) λe2 he2 u6 f h6=>⟨_,_,_,rfl,?_⟩;rw[SK]at he2;cases he2;refine hk (ms.map (pU e.tag)) iG f u6 (hA.pU e.tag) dP (fG.map λy=>⟨rfl,rfl,rfl⟩) ?_;exact an.back h6
 .exfalso;rw[LA]at hy;obtain⟨y,Ni,Gc⟩:=hI.one e he;exact(bD bI).1 (map_none hy) y Ni Gc
end
def wG(es add:List aj)(drop:List Int)(g:List aj):Prop:=ch aw aF g/\∀e,e∈g↔(e∈add\/(e∈es/\e.tag∉drop))
def wG.uniq{es add:List aj}{drop:List Int}{a b:List aj}(h:wG es add drop a)(k:wG es add drop b):a=b:=ch.ext ar h.1 k.1 λe=>(h.2 e).trans (k.2 e).symm
def vY(add:List aj):Prop:=∀e∈add,ti e=true/\1<=e.tag
def e_(es:List aj)(drop:List Int):Prop:=drop.Nodup/\∀t∈drop,∃e∈es,e.tag=t
def eT(es add:List aj)(drop:List Int):Prop:=(add.map aF).Nodup/\∀e∈add,(∃g∈es,g.tag=e.tag)->e.tag∈drop
inductive nC(B M:Int)(es:List aj)(ps:List Prod)(add:List aj)(drop:List Int):Int->List aj->Prop
 |form (h:¬vY add):nC B M es ps add drop 9 es
 |none (h:vY add) (h2:¬e_ es drop):nC B M es ps add drop 4 es
 |there (h:vY add) (h2:e_ es drop) (h3:¬eT es add drop):nC B M es ps add drop 3 es
 |dW (h:vY add) (h2:e_ es drop) (h3:eT es add drop) (oC:List aj) (h4:wG es add drop oC) (h5:∃q∈ps,dG B oC q.conds):nC B M es ps add drop 25 es
 |eb (h:vY add) (h2:e_ es drop) (h3:eT es add drop) (oC:List aj) (h4:wG es add drop oC) (h5:¬ ∃q∈ps,dG B oC q.conds) (h6:M<((cJ oC ps:Nat):Int)):nC B M es ps add drop 26 es
 |ok (h:vY add) (h2:e_ es drop) (h3:eT es add drop) (oC:List aj) (h4:wG es add drop oC) (h5:¬ ∃q∈ps,dG B oC q.conds) (h6:((cJ oC ps:Nat):Int)<=M):nC B M es ps add drop 0 oC
def aK(O es:List aj):List aj:=O.foldl (λl e=>bu aw aF e.tag l) es
def cx(A es:List aj):List aj:=A.foldl (λl e=>aZ aw aF e l) es
def gM{O:List aj}{k:Nat}(e:k<O.length)(es:List aj):aK (O.take (k+1)) es=bu aw aF O[k].tag (aK (O.take k) es):=by
 unfold aK;rw[take_add_one,getElem?_eq_getElem e,foldl_append];rfl
def iA{A:List aj}{k:Nat}(e:k<A.length)(es:List aj):cx (A.take (k+1)) es=aZ aw aF A[k] (cx (A.take k) es):=by
 unfold cx;rw[take_add_one,getElem?_eq_getElem e,foldl_append];rfl
def mg:∀(O:List aj) {es:List aj},ch aw aF es->ch aw aF (aK O es)
 |[],_,h=>h
 |o::O,_,h=>mg O (h.del _)
def lH:∀(A:List aj) {es:List aj},ch aw aF es->ch aw aF (cx A es)
 |[],_,h=>h
 |a::A,_,h=>lH A (h.ins ar a)
def dk:∀{O es:List aj} {e:aj},e∈aK O es↔e∈es/\∀o∈O,e.tag≠o.tag
 |[],es,e=>by simp[aK]
 |o::O,es,e=>by
  show e∈aK O (bu aw aF o.tag es)↔_
  rw[dk,ee ar]
  constructor
  .rintro⟨⟨j,h⟩,r⟩
   refine⟨j,λi g=>?_⟩
   rcases mem_cons.1 g with rfl|g
   .exact h
   .exact r i g
  .rintro⟨j,h⟩
   exact⟨⟨j,h o (by simp)⟩,λi g=>h i (by simp[g])⟩
def fJ:∀{A es:List aj} {e:aj},(A.map aF).Nodup->(∀a∈A,∀y∈es,y.tag≠a.tag)->(e∈cx A es↔e∈A\/e∈es)
 |[],es,e,_,_=>by simp[cx]
 |a::A,es,e,g,j=>by
  rw[map_cons,nodup_cons]at g
  show e∈cx A (aZ aw aF a es)↔_
  have i:∀b∈A,∀y∈aZ aw aF a es,y.tag≠b.tag:=λb r y C=>by
   rcases(bq ar).1 C with rfl|⟨h,_⟩
   .intro e;exact g.1 (mem_map.2 ⟨b,r,e.symm⟩)
   .exact j b (by simp[r]) y h
  rw[fJ g.2 i,bq ar,mem_cons];constructor
  .rintro(h|rfl|⟨h,_⟩)
   .exact .inl (.inr h)
   .exact .inl (.inl rfl)
   .exact .inr h
  .rintro((rfl|h)|h)
   .exact .inr (.inl rfl)
   .exact .inl h
   .exact .inr (.inr ⟨h,j a (by simp) e h⟩)
def OZ{es:List aj}{e:aj}:(aZ aw aF e es).length<=es.length+1:=vS
def ph:∀(A:List aj) (es:List aj),(cx A es).length<=es.length+A.length
 |[],_=>by simp[cx]
 |a::A,es=>by
  show(cx A (aZ aw aF a es)).length<=_
  have h:=ph A (aZ aw aF a es)
  have g:=OZ (es:=es) (e:=a);simp only[length_cons];omega
def rf:∀(O:List aj) (es:List aj),(aK O es).length<=es.length
 |[],_=>by simp[aK]
 |o::O,es=>by
  show(aK O (bu aw aF o.tag es)).length<=_
  have g:=rf O (bu aw aF o.tag es)
  have e:(bu aw aF o.tag es).length<=es.length:=rh;omega
structure Sets(es add:List aj)(drop:List Int)(O A:List aj):Prop where
 uO:ch aw aF O
 mO:∀e,e∈O↔e∈es/\e.tag∈drop
 uA:ch aw aF A
 mA:∀e,e∈A↔e∈add
def jF{A:List aj}(h:ch aw aF A):(A.map aF).Nodup:=by
 have i:(A.map aF).Pairwise λa b=>aw a b<0:=by rw[pairwise_map];exact h
 refine i.imp λ{a b} g e=>?_;rw[e]at g;exact absurd g (by rw[ar.self b];omega)
section
variable {es add O A:List aj} {drop:List Int}
def Sets.sep(h:Sets es add drop O A)(C:ch aw aF es)(ha:eT es add drop):∀a∈A,∀y∈aK O es,y.tag≠a.tag:=λa g y j e=>by
 obtain⟨i,r⟩:=dk.1 j;have:=ha.2 a ((h.mA a).1 g) ⟨y,i,e⟩;exact r y ((h.mO y).2 ⟨i,by rw[e];exact this⟩) rfl
def Sets.new(h:Sets es add drop O A)(j:ch aw aF es)(G:e_ es drop)(ha:eT es add drop):wG es add drop (cx A (aK O es)):=by
 refine⟨lH _ (mg _ j),λe=>?_⟩;rw[fJ (jF h.uA) (h.sep j ha),h.mA,dk];constructor
 .rintro(g|⟨g,i⟩)
  .exact .inl g
  .exact .inr ⟨g,λy=>i e ((h.mO e).2 ⟨g,y⟩) rfl⟩
 .rintro(g|⟨g,i⟩)
  .exact .inl g
  .refine .inr ⟨g,λo r C=>?_⟩;exact i (C▸((h.mO o).1 r).2)
def Sets.fresh(h:Sets es add drop O A)(r:ch aw aF es)(ha:eT es add drop){k:Nat}(C:k<A.length):aL aw aF A[k].tag (cx (A.take k) (aK O es))=none:=by
 refine(bD ar).2 λy H e=>?_;have e:y.tag=A[k].tag:=e;have G:∀a∈A.take k,a∈A:=λa ha=>List.mem_of_mem_take ha;rcases(fJ (jF (List.Pairwise.sublist (List.take_sublist _ _) h.uA)) (λa g=>h.sep r ha a (G a g))).1 H with i|i
 .obtain⟨j,I,rfl⟩:=List.mem_iff_getElem.1 i;rw[List.getElem_take]at e;simp only[length_take]at I;have:=List.pairwise_iff_getElem.1 h.uA j k (by omega) C (by omega);have:=wq.1 this;simp only[aF]at this;omega
 .exact h.sep r ha A[k] (getElem_mem C) y i e
def Sets.back(h:Sets es add drop O A)(i:ch aw aF es)(ha:eT es add drop):cx O (aK A (cx A (aK O es)))=es:=by
 have C:∀y,y∈aK A (cx A (aK O es))↔y∈aK O es:=λy=>by
  rw[dk,fJ (jF h.uA) (h.sep i ha)];constructor
  .rintro⟨g|g,J⟩
   .exact absurd rfl (J y g)
   .exact g
  .intro g;exact⟨.inr g,λa r=>h.sep i ha a r y g⟩
 have I:∀o∈O,∀y∈aK A (cx A (aK O es)),y.tag≠o.tag:=λo j y H=>(dk.1 ((C y).1 H)).2 o j;refine ch.ext ar (lH _ (mg _ (lH _ (mg _ i)))) i λy=>?_;rw[fJ (jF h.uO) I,C,dk];constructor
 .rintro(g|⟨g,_⟩)
  .exact((h.mO y).1 g).1
  .exact g
 .intro g;by_cases G:y∈O
  .exact .inl G
  .refine .inr ⟨g,λo j e=>G ?_⟩;have:=i.inj ar g ((h.mO o).1 j).1 e;rw[this];exact j
def Sets.aaR(h:Sets es add drop O A)(H:ch aw aF es)(ha:eT es add drop){k:Nat}(G:k<O.length):aL aw aF O[k].tag (cx (O.take k) (aK A (cx A (aK O es))))=none:=by
 refine(bD ar).2 λy g e=>?_;have e:y.tag=O[k].tag:=e;have C:∀y,y∈aK A (cx A (aK O es))->y∈aK O es:=λy g=>by
  obtain⟨i,Q⟩:=dk.1 g;rcases(fJ (jF h.uA) (h.sep H ha)).1 i with r|r
  .exact absurd rfl (Q y r)
  .exact r
 have I:∀o∈O.take k,∀y∈aK A (cx A (aK O es)),y.tag≠o.tag:=λo J y g=>(dk.1 (C y g)).2 o (List.mem_of_mem_take J);rcases(fJ (jF (List.Pairwise.sublist (List.take_sublist _ _) h.uO)) I).1 g with i|i
 .obtain⟨j,L,rfl⟩:=List.mem_iff_getElem.1 i;rw[List.getElem_take]at e;simp only[length_take]at L;have:=List.pairwise_iff_getElem.1 h.uO j k (by omega) G (by omega);have:=wq.1 this;simp only[aF]at this;omega
 .exact(dk.1 (C y i)).2 O[k] (getElem_mem G) e
def Sets.loc(h:Sets es add drop O A)(j:ch aw aF es)(ha:eT es add drop){p:aj->Bool}(G:∀o∈O,p o=false)(C:∀a∈A,p a=false):es.filter p=(cx A (aK O es)).filter p:=by
 refine ch.ext ar (j.filter _) ((lH _ (mg _ j)).filter _) λy=>?_;rw[mem_filter,mem_filter,fJ (jF h.uA) (h.sep j ha),dk];constructor
 .rintro⟨i,g⟩;refine⟨.inr ⟨i,λo r e=>?_⟩,g⟩;have:=j.inj ar i ((h.mO o).1 r).1 e;rw[this,G o r]at g;cases g
 .rintro⟨i|⟨i,_⟩,g⟩
  .rw[C y i]at g;cases g
  .exact⟨i,g⟩
end
def abK(ms:dq)(S:List RN.El)(l:List aj):Prop:=∀y∈ms,¬O_ S y.1->∀e∈l,bj y.2.c e=false
def Ey{ms h:dq}(C:fG ms h)(r:ch aw bU ms)(I:ch aw bU h){y:Int×eF}(j:y∈ms){e:aj}(G:bj y.2.c e=true):y.1∈eM e h:=by
 have H:aL aw bU y.1 ms=some y:=(bf ar r).2 ⟨j,rfl⟩;have g:=C y.1;rw[H]at g;cases i:aL aw bU y.1 h with
 |none=>rw[i]at g;cases g
 |some z=>
  rw[i]at g;simp only[Option.map_some,Option.some.injEq,Prod.mk.injEq]at g;obtain⟨hz,J⟩:=(bf ar I).1 i;exact mem_map.2 ⟨z,mem_filter.2 ⟨hz,by rw[g.1];exact G⟩,J⟩
set_option maxRecDepth 100000
def ym{l:List aj}(j:ch aw aF l){t:Int}:(aL aw aF t l).isSome=true↔∃e∈l,e.tag=t:=by
 constructor
 .intro h;obtain⟨e,r⟩:=Option.isSome_iff_exists.1 h;obtain⟨i,g⟩:=(bf ar j).1 r;exact⟨e,i,g⟩
 .rintro⟨e,i,g⟩;rw[(bf ar j).2 ⟨i,g⟩];rfl
def rT{l:List aj}{t:Int}:aL aw aF t l=none↔∀e∈l,e.tag≠t:=bD ar
def Bx{i:Type}{l:List i}{k:Nat}(r:k<l.length)(h:(l.take k).Nodup)(j:l[k]∉l.take k):(l.take (k+1)).Nodup:=by
 rw[take_add_one,getElem?_eq_getElem r];exact nodup_append.2 ⟨h,by simp,λa ha b g e=>by simp at g;subst e g;exact j ha⟩
def dX{e:Type}{l:List e}{k:Nat}(g:k<l.length){a:e}:a∈l.take (k+1)↔a∈l.take k\/a=l[k]:=by
 rw[take_add_one,getElem?_eq_getElem g,mem_append];simp
section
variable {n:Nat} {x:NC} {es:List aj} {ps:List Prod} {w:Nat}
theorem IS{bm:Nat}{S0:List RN.El}{l:List Int}{Km:Nat}{Pre:List aO}{L:List aO}{u:Mem}{R:Mem->Prop}(hl:∀j∈l,-1<=j/\j<1000000)(se:l.length<=1000000)(hS0:ch RN.ck RN.key S0)(hb:S0.length+l.length<=900000000)
  (hO:Ow (RN.At bm S0::Pt Km 156 [pP bm 0]::L) u)
  (hk:∀S u',ch RN.ck RN.key S->S.length<=S0.length+l.length->(∀s,O_ S0 s->O_ S s)->(∀j∈l,O_ S j)->Ow (RN.At bm S::Pt Km 156 [pP bm 0]::L) u'->R u'):
  ak (α:=Int) (λZK s_3 Zc=>
         ab (decide ((s_3:Int)<((List.length (l.map gu):Nat):Int)))
         ((0:Int)<=s_3/\∃(adh:List PV),(l.map gu)[Int.toNat s_3]?=some adh/\
          ∃(acH:Int),az adh 0 1=some [(pI acH)]/\
          ∃(acG:Option Addr),ay Zc Km 0 1=some [(.raw (.pointer acG))]/\
          aa prog 79 [(.raw (.pointer acG)),(pI acH)] Zc λahe ahg=>
          ∃(ag7:Bool),ahe=(pB ag7)/\
          ZK (wrap .i64 (s_3+(1))) ahg)
         (R Zc)) 0 u:=by
 refine ak.each (n:=l.length) (by omega) (λk u=>∃S,(ch RN.ck RN.key S/\S.length<=S0.length+k/\(∀s,O_ S0 s->O_ S s)/\(∀j∈l.take k,O_ S j))/\Ow (RN.At bm S::Pt Km 156 [pP bm 0]::L) u) ⟨S0,⟨hS0,by omega,λs h=>h,by simp⟩,hO⟩ ?_ ?_
 .rintro k u next dY ⟨S,⟨hS,Yz,h1,h2⟩,h3⟩ au
  have hj:=hl _ (getElem_mem dY);refine ab.t (by simpa using dY) ⟨by omega,_,tK dY,_,rfl,_,h3.rd 1 rfl (by simp),?_⟩;refine RN.fX (l:=S) h3 hS (by omega) ⟨l[k],hj⟩ λu2 h4=>⟨_,rfl,au _ ⟨_,⟨hS.put RN.hc _,?_,?_,?_⟩,h4⟩⟩
  .have:=Bl (ck:=RN.ck) (key:=RN.key) (x:=(⟨l[k],hj⟩:RN.El)) (L:=S);omega
  .rintro s hs;obtain⟨y,hy,rfl⟩:=h1 s hs;refine⟨y,?_,rfl⟩;unfold dB;split
   .exact hy
   .rename_i hn;have Yl:aL RN.ck RN.key (RN.key (⟨l[k],hj⟩:RN.El)) S=none:=by
     cases hg:aL RN.ck RN.key (RN.key (⟨l[k],hj⟩:RN.El)) S with
     |none=>rfl
     |some z=>rw[hg]at hn;exact absurd rfl hn
    exact(bq RN.hc).2 (.inr ⟨hy,(bD RN.hc).1 Yl y hy⟩)
  .intro j CU;have ZB:∀y∈S,y∈dB RN.ck RN.key (⟨l[k],hj⟩:RN.El) S:=λy hy=>by
    unfold dB;split
    .exact hy
    .rename_i hn;have Yl:aL RN.ck RN.key (RN.key (⟨l[k],hj⟩:RN.El)) S=none:=by
      cases hg:aL RN.ck RN.key (RN.key (⟨l[k],hj⟩:RN.El)) S with
      |none=>rfl
      |some z=>rw[hg]at hn;exact absurd rfl hn
     exact(bq RN.hc).2 (.inr ⟨hy,(bD RN.hc).1 Yl y hy⟩)
   rcases(dX dY).1 CU with CU|rfl
   .obtain⟨y,hy,e⟩:=h2 j CU;exact⟨y,ZB y hy,e⟩
   .unfold dB;split
    .rename_i hs;obtain⟨y,hy⟩:=Option.isSome_iff_exists.1 hs;obtain⟨a1,a2⟩:=(bf RN.hc hS).1 hy;exact⟨y,a1,a2⟩
    .exact⟨_,(bq RN.hc).2 (.inl rfl),rfl⟩
 .rintro u next ⟨S,⟨hS,Yz,h1,h2⟩,h3⟩
  rw[take_length]at h2;exact ab.f (by simp) (hk S u hS Yz h1 h2 h3)
def IQ{e:aj}{ms:dq}(i:dE es ms):∀j∈eM e ms,-1<=j/\j<1000000:=λj h=>by
 obtain⟨y,g,rfl⟩:=mem_map.1 h;have:=i.num y (mem_filter.1 g).1;exact⟨by omega,this.2⟩
def VR{T:Tree}{B:Int}{ms:dq}{tk:Path->List bY}{ct:Path->List Nat}(h:jz B T es ms tk ct):∀p∈T.D,∀j∈T.M p,-1<=j/\j<1000000:=λp hp j g=>by
 refine⟨h.tree.mge p hp j g,?_⟩;by_cases G:0<=j
 .have e:=h.use.use j G;have H:0<(T.D.flatMap T.M).count j:=List.count_pos_iff.2 (mem_flatMap.2 ⟨p,hp,g⟩);unfold fV at e;cases i:aL aw bU j ms with
  |none=>
   rw[i]at e;have e:(0:Int)=_:=e;omega
  |some y=>
   obtain⟨C,r⟩:=(bf ar h.use.inv.nD).1 i;have r:y.1=j:=r;have:=(h.use.inv.num y C).2;omega
 .omega
def ta.Az{T:Tree}{ms i:dq}{ids y:pq}{g:List aj}{tk r:Path->List bY}{ct j:Path->List Nat}{W:Path->Prop}(h:ta x T es ms ids tk ct ps w W)(H:dE g i)(G:jn g y)(C:fG ms i)(I:XB T x.T g r j)(J:∀e∈g,1<=e.tag/\e.tag<9223372036854775808):ta x T g i y r j ps w W:=
 ⟨⟨h.core.tree,C.use h.core.use H,λp c hp=>Cd C.mem c 0 (h.core.fit p c hp),I⟩,h.Dj,G,h.root,h.tb,h.mb,h.Dc,h.Ee,h.pD,h.ends,J,h.Kb,h.dl⟩
def RB{T:Tree}{ms:dq}{ids:pq}{tk:Path->List bY}{ct:Path->List Nat}{fs:List aj}(h:ta x T es ms ids tk ct ps w (λ_=>False)):(∃q c j,q++[c]∈T.D/\x.T<((dI fs c (aE fs q) j:Nat):Int))↔∃p∈ps,dG x.T fs p.conds:=by
 constructor
 .rintro⟨q,c,j,Y,y⟩;have key:∀(m:Nat) (r:Path),r∈T.D->r≠[]->17-r.length<=m->∃p∈ps,r <+: p.conds:=by
   intro m;induction m with
   |zero=>intro r e _ J;have:=h.core.tree.len r e;omega
   |succ m I=>
    intro r e Gi J;rcases h.Dj r e Gi (λh=>h)with L|H
    .cases hK:T.K r with
     |nil=>exact absurd hK L
     |cons d l=>
      have U:r++[d]∈T.D:=(h.core.tree.kids r e d).1 (by rw[hK];simp);obtain⟨p,hp,fD⟩:=I (r++[d]) U (by simp) (by simp;omega);exact⟨p,hp,List.IsPrefix.trans (prefix_append _ _) fD⟩
    .rw[h.ends r e]at H;obtain⟨p,hp⟩:=List.exists_mem_of_length_pos H;obtain⟨h1,C⟩:=mem_filter.1 hp;have C:p.conds=r:=by simpa using C
     exact⟨p,h1,by rw[C];exact prefix_refl _⟩
  obtain⟨p,hp,s,g⟩:=key 17 (q++[c]) Y (by simp) (by omega);have G:q.length<p.conds.length:=by rw[<- g];simp
  refine⟨p,hp,q.length,G,j,?_⟩;have e1:p.conds.take q.length=q:=by rw[<- g,append_assoc,List.take_left'];rfl
  have e2:p.conds[q.length]=c:=by
   have:p.conds[q.length]?=some c:=by rw[<- g];simp
   rw[getElem?_eq_getElem G]at this;simpa using this
  rw[e1,e2];exact y
 .rintro⟨p,hp,i,Q,j,y⟩;refine⟨p.conds.take i,p.conds[i],j,?_,y⟩;have:p.conds.take (i+1)=p.conds.take i++[p.conds[i]]:=by rw[take_add_one,getElem?_eq_getElem Q];rfl
  rw[<- this];exact h.core.tree.OG (h.pD p hp) (take_prefix _ _)
end
theorem Ou{c:ae}{b:List aP.Bind}{es:List aj}{y:aj×List aP.Bind}(h:y∈aY c b es):y.1∈es:=by
 unfold aY at h;obtain⟨e,he,h2⟩:=List.mem_filterMap.1 h;cases hc:dg c e b with
 |none=>rw[hc]at h2;cases h2
 |some q=>
  rw[hc]at h2;simp only[Option.map_some,Option.some.injEq]at h2;subst h2;exact he
def QS{es:List aj}(I:es.Pairwise λa b=>a.tag≠b.tag){c:ae}{ts:List bY}(h:ts.Pairwise λa b=>a.tags≠b.tags):(stepT es c ts).Pairwise λa b=>a.tags≠b.tags:=by
 unfold stepT;split
 .rw[List.pairwise_flatMap];refine⟨λt ht=>?_,h.imp λ{a b} C x H y G e=>?_⟩
  .rw[pairwise_map];unfold aY;refine List.Pairwise.filterMap _ (R:=λa b:aj=>a.tag≠b.tag) (λa r j b i Q g e=>?_) I;have L:b.1=a:=by
    cases hc:dg c a t.binds with
    |none=>rw[hc]at i;cases i
    |some q=>rw[hc]at i;simp only[Option.map_some,Option.some.injEq]at i;rw[<- i]
   have J:Q.1=r:=by
    cases hc:dg c r t.binds with
    |none=>rw[hc]at g;cases g
    |some q=>rw[hc]at g;simp only[Option.map_some,Option.some.injEq]at g;rw[<- g]
   have:=List.append_inj_right' e rfl;simp only[List.cons.injEq,and_true]at this;rw[L,J]at this;exact j this
  .obtain⟨Y,_,rfl⟩:=mem_map.1 H;obtain⟨U,_,rfl⟩:=mem_map.1 G;exact C (List.append_inj_left' e rfl)
 .exact h.filter _
def nL{es:List aj}(i:es.Pairwise λa b=>a.tag≠b.tag)(p:Path):(aE es p).Pairwise λa b=>a.tags≠b.tags:=by
 have key:∀(p:Path) (e:List bY),(e.Pairwise λa b=>a.tags≠b.tags)->(p.foldl (λe c=>stepT es c e) e).Pairwise λa b=>a.tags≠b.tags:=by
  intro p;induction p with
  |nil=>intro e h;exact h
  |cons c p g=>intro e h;exact g _ (QS i h)
 exact key p _ (List.pairwise_singleton _ _)
theorem KC{es:List aj}{c:ae}{ts:List bY}(h:∀t∈ts,∀x∈t.tags,∃e∈es,e.tag=x):∀t∈stepT es c ts,∀x∈t.tags,∃e∈es,e.tag=x:=by
 intro t ht x hx;unfold stepT at ht;split at ht
 .obtain⟨t',An,hm⟩:=mem_flatMap.1 ht;obtain⟨y,hy,rfl⟩:=mem_map.1 hm;rcases mem_append.1 hx with hx|hx
  .exact h t' An x hx
  .simp only[mem_singleton]at hx;exact⟨y.1,Ou hy,hx.symm⟩
 .exact h t (mem_filter.1 ht).1 x hx
def Kw{es:List aj}(p:Path):∀t∈aE es p,∀x∈t.tags,∃e∈es,e.tag=x:=by
 have key:∀(p:Path) (g:List bY),(∀t∈g,∀x∈t.tags,∃e∈es,e.tag=x)->∀t∈p.foldl (λg c=>stepT es c g) g,∀x∈t.tags,∃e∈es,e.tag=x:=by
  intro p;induction p with
  |nil=>intro g h;exact h
  |cons c p j=>intro g h;exact j _ (KC h)
 exact key p _ (by intro t i x r;simp only[mem_singleton]at i;subst i;simp[Ff]at r)
def HF{es:List aj}(h:ch aw aF es):es.Pairwise λa b=>a.tag≠b.tag:=h.imp λ{a b} g e=>by
 have e:aF a=aF b:=e;rw[e]at g;exact absurd g (by rw[ar.self];omega)
def eJ:nI bn:=⟨tv,tw,qB⟩
def jY(ts:List bY):List bY:=ts.foldl (λl t=>dB bn bY.tags t l) []
def AZ:∀(ts acc:List bY),ch bn bY.tags acc->(ts.Pairwise λa b=>a.tags≠b.tags)->(∀t∈ts,∀a∈acc,a.tags≠t.tags)->ch bn bY.tags (ts.foldl (λl t=>dB bn bY.tags t l) acc)/\∀y,y∈ts.foldl (λl t=>dB bn bY.tags t l) acc↔y∈ts\/y∈acc
 |[],acc,h,_,_=>⟨h,by simp⟩
 |t::ts,acc,h,hp,e=>by
  obtain⟨H,G⟩:=pairwise_cons.1 hp
  have C:aL bn bY.tags t.tags acc=none:=(bD eJ).2 λa ha=>e t (by simp) a ha;have I:dB bn bY.tags t acc=aZ bn bY.tags t acc:=by rw[dB,C];rfl
  simp only[foldl_cons];rw[I];obtain⟨r,j⟩:=AZ ts _ (h.ins eJ t) G λg i a ha=>by
   rcases(bq eJ).1 ha with rfl|⟨ha,_⟩
   .exact H g i
   .exact e g (by simp[i]) a ha
  refine⟨r,λy=>?_⟩;rw[j,bq eJ,mem_cons];constructor
  .rintro(h|rfl|⟨h,_⟩)
   .exact .inl (.inr h)
   .exact .inl (.inl rfl)
   .exact .inr h
  .rintro((rfl|h)|h)
   .exact .inr (.inl rfl)
   .exact .inl h
   .exact .inr (.inr ⟨h,e t (by simp) y h⟩)
def jX{ts:List bY}(h:ts.Pairwise λa b=>a.tags≠b.tags):ch bn bY.tags (jY ts)/\∀y,y∈jY ts↔y∈ts:=by
 obtain⟨g,e⟩:=AZ ts [] Pairwise.nil h (by simp);exact⟨g,λy=>by unfold jY;rw[e y];simp⟩
def HT{ts l:List bY}(h:ts.Pairwise λa b=>a.tags≠b.tags)(g:ch bn bY.tags l)(e:∀y,y∈l↔y∈ts):l=jY ts:=
 ch.ext eJ g (jX h).1 λy=>(e y).trans ((jX h).2 y).symm
def KH{ts us:List bY}(h:ts.Pairwise λa b=>a.tags≠b.tags)(hp:ts.Perm us):jY ts=jY us:=by
 have i:us.Pairwise λa b=>a.tags≠b.tags:=hp.pairwise h λ{a b} g e=>g e.symm;exact HT i (jX h).1 λy=>((jX h).2 y).trans hp.mem_iff
def xJ{ts:List bY}(h:ts.Pairwise λa b=>a.tags≠b.tags):(jY ts).length=ts.length:=by
 have C:=(jX h).1;have j:∀l:List bY,(l.Pairwise λa b=>a.tags≠b.tags)->(l.map bY.tags).Nodup:=λl r=>by rw[List.Nodup,pairwise_map];exact r
 have y:(jY ts).Pairwise λa b=>a.tags≠b.tags:=C.imp λ{a b} i e=>by
  rw[e]at i;exact absurd i (by rw[eJ.self];omega)
 have:=OL (j _ y) (j _ h) λx=>by
  rw[mem_map,mem_map];constructor
  .rintro⟨t,g,e⟩;exact⟨t,((jX h).2 t).1 g,e⟩
  .rintro⟨t,g,e⟩;exact⟨t,((jX h).2 t).2 g,e⟩
 simpa using this
structure Mt where
 name:ByteArray
 tags:List Int
@[reducible] def Mt.pv(m:Mt):List PV:=[pS m.name,.list 1 .sh (m.tags.map fO)]
def qO(es:List aj)(p:Prod):List Mt:=(jY (aE es p.conds)).map λt=>⟨p.name,t.tags⟩
def allM(es:List aj)(ps:List Prod):List Mt:=ps.flatMap (qO es)
theorem DO:∀(xs acc:List RK.El),(xs.foldl (λl x=>dB RK.ck RK.key x l) acc).map Subtype.val=(xs.map Subtype.val).foldl (λl t=>dB bn bY.tags t l) (acc.map Subtype.val)
 |[],_=>rfl
 |x::xs,acc=>by
  simp only[foldl_cons,map_cons]
  rw[DO xs]
  congr 1
  unfold dB
  have e1:aL bn bY.tags x.1.tags (acc.map Subtype.val)=(aL RK.ck RK.key (RK.key x) acc).map Subtype.val:=oa (f:=(Subtype.val:RK.El->bY))
  have e2:aZ bn bY.tags x.1 (acc.map Subtype.val)=(aZ RK.ck RK.key x acc).map Subtype.val:=l_ (f:=(Subtype.val:RK.El->bY)) (x:=x);rw[e1,e2,Option.isSome_map];split<;>rfl
section
variable {n:Nat} {x:NC} {es:List aj} {ms:dq} {ids:pq} {T:Tree} {tk:Path->List bY} {ct:Path->List Nat} {fr:Path->List bY} {mn:Path->List Nat} {ps:List Prod} {w:Nat}
def Zd(j:∀e∈es,1<=e.tag/\e.tag<9223372036854775808){p:Path}(hp:bO p)(r:p.length<=1000):∀t∈aE es p,Ha t.tags:=λt g=>by
 refine⟨by have:=(xE (es:=es) hp t g).2;omega,λx h=>?_⟩;obtain⟨e,i,rfl⟩:=Kw p t g x h;have:=j e i;omega
theorem cOf(s:ByteArray){p:Prod}(BR:∀e∈es,1<=e.tag/\e.tag<9223372036854775808)(hp:si p)(hD:p.conds∈T.D)(gF:tk p.conds=aE es p.conds)(BQ:(aE es p.conds).length<=1024)(f1 f2 f3:Fl){L:List aO}{μ:Mem}(hO:Ow (cj T tk ct fr mn::L) μ){K:Kq}
  (hk:∀f μ',Ow (cj T tk ct fr mn::L) μ'->K (.list 2 f (((jY (aE es p.conds)).map λt=>(⟨s,t.tags⟩:Mt)).map Mt.pv)) μ'):
  aa prog 45 [pS s,.agg [pS p.name,.list 7 f1 (p.conds.map ae.pv),.list 19 f2 (p.bd.map cI.pv),.list 1 f3 ((dQ T.B p.conds).map λb=>[pP b 0])]] μ K:=by
 obtain⟨_,_,_,_,_,g1,g2⟩:=hp.facts;obtain⟨w1,w2⟩:=Ae T.B g1 (by omega);have aJ:=Zd (p:=p.conds) BR hp.vM (by omega);refine Qg.c λb2 zN=>?_;have O1:=hO.new 9 [pS s] zN;refine⟨w2,_,w1,_,rfl,?_⟩;dsimp only[nP,nn,aM];obtain⟨F,hF⟩:=cj.rd hD (Ow.swap O1);refine⟨_,_,aH hF (by simp),?_⟩;dsimp only[gK];rw[gF];let xs:List RK.El:=(aE es p.conds).attach.map λt=>⟨t.1,aJ t.1 t.2⟩;have hxs:xs.map Subtype.val=aE es p.conds:=by
  show((aE es p.conds).attach.map λt=>(⟨t.1,aJ t.1 t.2⟩:RK.El)).map Subtype.val=_;rw[map_map];exact List.attach_map_subtype_val _
 have Sq:(aE es p.conds).map bY.pv=xs.map RK.pv:=by rw[<- hxs,map_map];rfl
 have hxl:xs.length=(aE es p.conds).length:=by rw[<- hxs];simp
 rw[Sq];refine RK.gB O1 _ xs (by omega) λu b h2=>⟨_,rfl,λb6 Gp=>?_⟩;generalize hS:xs.foldl (λl x=>dB RK.ck RK.key x l) []=S at h2;have hSv:S.map Subtype.val=jY (aE es p.conds):=by
  rw[<- hS,DO,hxs];rfl
 have Yz:S.length<=1024:=by
  have h3:S.length=(jY (aE es p.conds)).length:=by rw[<- hSv];simp
  have hle:∀(ts acc:List bY),(ts.foldl (λl t=>dB bn bY.tags t l) acc).length<=acc.length+ts.length:=by
   intro ts;induction ts with
   |nil=>intro acc;simp
   |cons t ts ih=>
    intro acc;have h4:=ih (dB bn bY.tags t acc);have h5:=Bl (ck:=bn) (key:=bY.tags) (x:=t) (L:=acc);simp only[foldl_cons,length_cons];omega
  have h6:=hle (aE es p.conds) [];unfold jY at h3;simp only[List.length_nil]at h6;omega
 have h3:Ow (RK.At b S::kB b6 54 2 []::Pt b2 9 [pS s]::cj T tk ct fr mn::L) _:=Ow.ord [1,0] (kB.new (h2.new 54 [.list 2 .nil []] Gp));refine(RK.qc b).call ⟨_,_,_,rfl,?_⟩;refine bk.own (RK.eG b S (by omega)) h3 (λk u=>Ow (kB b6 54 2 (((S.take k).map λt=>(⟨s,t.1.tags⟩:Mt)).map Mt.pv)::Pt b2 9 [pS s]::cj T tk ct fr mn::L) u) (λ_ _=>False) (λk=>eW.own _) (λ_ _ _ _ h=>h.elim) (λμ' h'=>h'.drop) ?_ ?_ (λ_ _ h=>h.elim)
 .rintro k dY u2 R h4 bT _;have bZ:k<S.length:=by simpa using dY
  have hle:=(S[k]).2.le;rw[getElem_map];obtain⟨f,ho⟩:=kB.open_ 0 h4 rfl;refine⟨_,_,_,_,rfl,_,_,ho.rd 0 rfl (by simp),_,ho.rd 2 rfl (by simp),?_⟩;refine aR.go (fl:=.nil) trivial (by simp;omega) (by simp;omega) (λkA u4 _ fL=>?_) (λ_ b c h=>by cases h);have ho2:Ow (Pt b6 54 [.list 2 f (((S.take k).map λt=>(⟨s,t.1.tags⟩:Mt)).map Mt.pv)]::eX f (((S.take k).map λt=>(⟨s,t.1.tags⟩:Mt)).map Mt.pv).length 2::Pt b2 9 [pS s]::cj T tk ct fr mn::L) u4:=Ow.mono (λb o hb=>(fL b o hb id).1) ho;refine Ow.app ho2.swap rfl (by simp;omega) (by simp;omega) λf2 u5 h5=>h5.st 1 rfl (by simp) λu6 h6=>bT _ ?_;have h7:=kB.shut h6 (by simp only[length_append,length_cons,List.length_nil]);have e:((S.take (k+1)).map λt=>(⟨s,t.1.tags⟩:Mt)).map Mt.pv=((S.take k).map λt=>(⟨s,t.1.tags⟩:Mt)).map Mt.pv++[[pS s,.list 1 .sh ([]++S[k].1.tags.map λx=>[pI x])]]:=by
   rw[eZ bZ,map_append];rfl
  rw[e];exact h7
 .intro u2 h4;rw[length_map,take_length]at h4;dsimp only[PK];obtain⟨f,hf⟩:=kB.rd 0 h4 rfl;refine⟨_,_,hf,?_⟩;have e:(S.map λt=>(⟨s,t.1.tags⟩:Mt))=(jY (aE es p.conds)).map λt=>(⟨s,t.tags⟩:Mt):=by rw[<- hSv,map_map];rfl
  rw[e];exact hk f u2 h4.drop.drop
end
def aaU{j C:Type}(f:j->List C):∀(l:List j) (i:Nat) (r:i<l.length) (k:Nat) (g:k<(f l[i]).length),∃h:((l.take i).flatMap f).length+k<(l.flatMap f).length,(l.flatMap f)[((l.take i).flatMap f).length+k]=(f l[i])[k]:=by
 intro l i r k g;have e:l.flatMap f=(l.take i).flatMap f++(f l[i]++(l.drop (i+1)).flatMap f):=by
  rw[<- flatMap_cons,<- flatMap_append];congr 1;rw[<- List.drop_eq_getElem_cons r,List.take_append_drop]
 have h:((l.take i).flatMap f).length+k<(l.flatMap f).length:=by rw[e,length_append,length_append];omega
 refine⟨h,?_⟩;have y:(l.flatMap f)[((l.take i).flatMap f).length+k]?=some (f l[i])[k]:=by
  rw[e,List.getElem?_append_right (by omega),show((l.take i).flatMap f).length+k-((l.take i).flatMap f).length=k from by omega,List.getElem?_append_left g,getElem?_eq_getElem g]
 rw[getElem?_eq_getElem h]at y;simpa using y
section
variable {n:Nat} {x:NC} {es:List aj} {ps:List Prod} {w:Nat}
def ta.len{ms:dq}{ids:pq}{T:Tree}{tk:Path->List bY}{ct:Path->List Nat}{W:Path->Prop}(h:ta x T es ms ids tk ct ps w W){p:Path}(hp:p∈T.D):(aE es p).length<=1024:=by
 obtain⟨j,i⟩:=h.tb;by_cases e:p=[]
 .subst e;simp[aE]
 .obtain⟨q,d,rfl⟩:=oH e;have g:=h.core.dW.le q d hp 0;rw[jM,<- dv]at g;omega
theorem NH(t m:Int){L:List aO}{μ:Mem}(hO:Ow L μ){K:Kq}
  (h0:¬(1<=t/\t<=1024/\1<=m/\m<=1024)->K (.aB [.raw (.pointer none),pI 1]) μ)
  (h1:1<=t/\t<=1024/\1<=m/\m<=1024->∀n x μ',x.T=t->x.M=m->Ow (fi n x [] [] 0::L) μ'->K (.aB [pP n 0,pI 0]) μ'):
  aa prog 16 [pI t,pI m] μ K:=by
 refine Mp.c ?_;refine ab.mk (λh=>h0 λh'=>?_) (λg1=>ab.mk (λh=>h0 λh'=>?_) (λg2=>ab.mk (λh=>h0 λh'=>?_) (λg3=>ab.mk (λh=>h0 λh'=>?_) (λg4 Uo aiV=>?_))))
 .have:t<1:=by simpa using h
  omega
 .have:t>1024:=by simpa using h
  omega
 .have:m<1:=by simpa using h
  omega
 .have:m>1024:=by simpa using h
  omega
 have hb:1<=t/\t<=1024/\1<=m/\m<=1024:=by
  have a1:¬t<1:=by simpa using g1
  have a2:¬t>1024:=by simpa using g2
  have a3:¬m<1:=by simpa using g3
  have a4:¬m>1024:=by simpa using g4
  omega
 let T:Tree:=⟨[[]],λ_=>Uo,λ_=>[],λ_=>0,λ_=>[],λ_=>(none,0)⟩;have O1:=hO.new 126 (gK T (λ_=>[Ff]) (λ_=>[]) (λ_=>[]) (λ_=>[]) [] ⟨.nil,.nil,.nil,.nil,.nr,.nil,.nil,.nil⟩).pv aiV;have mkN:∀ν,Ow (Pt Uo 126 (gK T (λ_=>[Ff]) (λ_=>[]) (λ_=>[]) (λ_=>[]) [] ⟨.nil,.nil,.nil,.nil,.nr,.nil,.nil,.nil⟩).pv::L) ν->Ow (cj T (λ_=>[Ff]) (λ_=>[]) (λ_=>[]) (λ_=>[])::L) ν:=λν Ke=>by
  refine cj.in_ (T:=T) (p:=[]) (A:=[]) (B:=[]) rfl (F:=⟨.nil,.nil,.nil,.nil,.nr,.nil,.nil,.nil⟩) ?_;refine Ke.tail λν hν=>?_;have h2:Ow (ca 110 1 (.raw (.slice none 0 0)) []::L) ν:=ca.nil _ _ hν;exact h2.tail λν2 h3=>⟨M0,ν2,Mem.xM ν2,(Mem.JM ν2).symm,trivial,h3⟩
 have O2:=mkN _ O1;refine afB O2 λu al h2=>⟨_,rfl,?_⟩;refine RT.gB h2 .nil [] (by simp) λu1 el h3=>⟨_,rfl,?_⟩;refine RI.Cq h3 λu2 id h4=>⟨_,rfl,?_⟩;refine RP.Cq h4 λu3 pr h5=>⟨_,rfl,λb31 aiU=>?_⟩;have O3:=h5.new 116 [pI t,pI m,pP Uo 0,pP al 0,pP el 0,pP id 0,pP pr 0] aiU;let x:NC:=⟨t,m,Uo,al,el,id,pr⟩;refine h1 hb b31 x _ rfl rfl (fi.shut (T:=T) (ms:=[]) (ids:=[]) (tk:=λ_=>[Ff]) (ct:=λ_=>[]) (fr:=λ_=>[]) (mn:=λ_=>[]) ?_ (by show((cJ [] []:Nat):Int)<=m;unfold cJ;simp;omega) ?_)
 .have tU:∀(p:Path) (c:ae),¬p++[c]∈T.D:=λp c h=>by
   have:p++[c]∈[([]:Path)]:=h;simp at this
  refine⟨⟨⟨by show[([]:Path)].Nodup;simp,by show[]∈[([]:Path)];simp,λp hp c=>⟨λh=>(by cases h),λh=>absurd h (tU p c)⟩,λp hp=>List.nodup_nil,λp c h=>absurd h (tU p c),λp hp=>?_,λp hp=>?_,λp hp=>?_,λp c h=>absurd h (tU p c),rfl,by show 1<=5000;omega,λp hp j hj=>by cases hj⟩,⟨dE.nil,λk _=>rfl⟩,λp c h=>absurd h (tU p c),⟨λp hp=>?_,λp c h=>absurd h (tU p c),λp c h=>absurd h (tU p c)⟩⟩,λr hr Gi _=>?_,⟨Pairwise.nil,by simp,by simp,by simp,by simp⟩,rfl,by show 1<=t/\t<=1024;omega,by show 1<=m/\m<=1024;omega,Pairwise.nil,by simp,by simp,λp hp=>rfl,by simp,by simp,by show 1<=1+16*0;omega⟩
  .have:p∈[([]:Path)]:=hp;simp at this;subst this;simp
  .have:p∈[([]:Path)]:=hp;simp at this;subst this;trivial
  .have:p∈[([]:Path)]:=hp;simp at this;subst this;simp[ah]
  .have:p∈[([]:Path)]:=hp;simp at this;subst this;rfl
  .have:r∈[([]:Path)]:=hr;simp at this;exact absurd this Gi
 .have h6:Ow (Pt b31 116 x.pv::bH al [] []::RI.cy id []::cj T (λ_=>[Ff]) (λ_=>[]) (λ_=>[]) (λ_=>[])::RP.cy pr []::RT.At el []::L) _:=Ow.ord [0,3,1,2,0,0] O3;have h7:Ow (Pt b31 116 x.pv::bH al [] []::gR id []::cj T (λ_=>[Ff]) (λ_=>[]) (λ_=>[]) (λ_=>[])::RP.cy pr []::RT.At el []::L) _:=h6.tail λ_ h=>h.tail λ_ h=>h.imp λν hν=>Ow.one hν;exact Ow.pack (L1:=[Pt b31 116 x.pv,bH al [] [],gR id []]) h7
@[reducible] def Rp(n:Nat):PV:=.fn (.func 83) [] [.bt [pP n 0] 0]
def YO(n:Nat):Pure prog 34 [pP n 0] (Rp n):=av.of (CP.c rfl)
theorem MJ(hw:w<=1000):GZ prog (Rp n) ((allM es ps).map λm=>[.agg m.pv]) (fi n x es ps w):=by
 refine GZ.mk λfy ya yb J S μ hy hO cV=>?_;show aa _ _ [.fn fy ya yb,.bt [pP n 0] 0] _ _;obtain⟨T,ms,ids,tk,ct,fr,mn,⟨hR,mF⟩,h1⟩:=fi.open_ hO;have nH:ps.length<=1000:=le_trans hR.Kb hw;refine yO.c λb2 zN=>⟨_,rfl,?_⟩;have O1:=h1.new 105 [.fn fy ya yb] zN;dsimp only[nP,nn,aM];refine⟨_,aH (an.xt (x:=x) (es:=es) (ms:=ms) (ids:=ids) O1 (by simp)) (by simp),(RP.rm x.pr).call ⟨_,_,_,rfl,?_⟩⟩;have n_:((ps.map (gl T.B)).map λy=>[RP.cY y.1,RP.gN y.2]).length=ps.length:=by simp
 have shut:∀{u:Mem} {M:List aO},Ow (gf n x es ms ids T tk ct fr mn ps M) u->Ow (fi n x es ps w::M) u:=λh=>fi.shut hR mF h;refine bk.own (RP.fI x.pr (ps.map (gl T.B)) (by simp;omega)) (Ow.ord [3] O1)
  (λi u=>Ow (gf n x es ms ids T tk ct fr mn ps [Pt b2 105 [.fn fy ya yb],J (allM es (ps.take i)).length]) u) (λcd u=>cd=.ret/\Ow [fi n x es ps w,S] u) (λi=>eW.own _) (λcd=>eW.and (eW.own _)) (λμ' h'=>?_) ?_ ?_ ?_
 .have h2:Ow (RP.cy x.pr (ps.map (gl T.B))::Pt b2 105 [.fn fy ya yb]::an n x es ms ids::cj T tk ct fr mn::RT.At x.el es::[J 0]) μ':=h';exact Ow.ord [2,2,0,1,0] h2
 .rintro i Hv u R h2 bT iR;have hi:i<ps.length:=by simpa using Hv
  have hm:=getElem_mem hi;have aJ:=hR.Ee _ hm;have hD:=hR.pD _ hm;obtain⟨_,_,_,_,_,g1,g2⟩:=aJ.facts;have BQ:=hR.len hD;rw[getElem_map,getElem_map];refine⟨_,_,_,_,_,_,_,_,rfl,?_⟩;refine cOf ps[i].name hR.tags aJ hD (hR.core.dW.tok _ hD) BQ _ _ _ (Ow.swap h2) λf u3 h3=>⟨_,_,rfl,?_⟩;have aW:=nL (HF hR.core.use.inv.xD) ps[i].conds;have aip:((jY (aE es ps[i].conds)).map λt=>(⟨ps[i].name,t.tags⟩:Mt))=qO es ps[i]:=rfl;rw[aip];have akK:(qO es ps[i]).length<=1024:=by unfold qO;rw[length_map,xJ aW];exact BQ
  have aeT:(allM es (ps.take (i+1))).length=(allM es (ps.take i)).length+(qO es ps[i]).length:=by unfold allM;rw[Cc hi,length_append]
  refine ak.each (n:=(qO es ps[i]).length) (by omega) (λk u=>Ow (gf n x es ms ids T tk ct fr mn ps [Pt b2 105 [.fn fy ya yb],J ((allM es (ps.take i)).length+k)]) u) (Ow.swap h3) ?_ ?_
  .rintro k u4 next hk h4 au
   obtain⟨bK,pR⟩:∃h:(allM es (ps.take i)).length+k<(allM es ps).length,(allM es ps)[(allM es (ps.take i)).length+k]=(qO es ps[i])[k]:=aaU (qO es) ps i hi k hk;refine ab.t (by simpa using hk) ⟨by omega,_,aA hk,_,_,_,rfl,_,_,_,h4.rd 4 rfl (by simp),?_⟩;have fF:∀ν,J ((allM es (ps.take i)).length+k) ν->bP prog (.fn fy ya yb) [.agg (qO es ps[i])[k].pv] ν λv μ'=>(v=pB true/\Ow [J ((allM es (ps.take i)).length+k+1)] μ')\/(v=pB false/\Ow [S] μ'):=λν hν=>by
    have h:=cV ((allM es (ps.take i)).length+k) (by rw[length_map];exact bK) ν hν;rw[getElem_map]at h;rw[pR]at h;exact h
   refine Ow.Cp (Ow.ord [5] h4) fF λv u5 h5=>?_;rcases h5.tt with⟨rfl,h6⟩|⟨rfl,h6⟩
   .exact⟨_,rfl,ab.f rfl (au _ (Ow.ord [1,1,1,1,1,0] h6))⟩
   .refine⟨_,rfl,ab.t rfl (iR _ _ ⟨rfl,?_⟩)⟩;have h7:Ow (gf n x es ms ids T tk ct fr mn ps [S]) u5:=(Ow.ord [1,1,1,1,1,0] h6).tail λ_ h=>h.tail λ_ h=>h.tail λ_ h=>h.tail λ_ h=>h.drop;exact shut h7
  .rintro u4 next h4
   refine ab.f (by simp) (bT _ ?_);rw[aeT];exact h4
 .intro u h2;rw[n_,take_length]at h2;dsimp only[PK];rw[length_map];exact .inl (shut (h2.tail λ_ h=>h.tail λ_ h=>h.tail λ_ h=>h.tail λ_ h=>h.drop))
 .rintro cd u ⟨rfl,h⟩;exact .inr h
end
def pd(es:List aj)(l:List ae):List Nat:=(range l.length).flatMap λi=>gA es (l.take (i+1))
def dC(l:List Nat):Nat:=l.foldl max 0
def foldl_max(l:List Nat)(a:Nat):l.foldl max a=max a (dC l):=by
 unfold dC;induction l generalizing a with
 |nil=>simp
 |cons b l e=>simp only[foldl_cons];rw[e (max a b),e (max 0 b)];omega
def eL(a b:List Nat):dC (a++b)=max (dC a) (dC b):=by
 conv=>lhs;unfold dC
 rw[foldl_append,foldl_max];rfl
def qM(a:Nat):dC [a]=a:=by simp[dC]
def lW(es:List aj)(ps:List Prod):Nat:=dC (ps.flatMap λq=>pd es q.conds)
def VY{l:List Nat}{b:Nat}(h:∀x∈l,x<=b):dC l<=b:=by
 induction l with
 |nil=>simp[dC]
 |cons a l e=>
  have j:=h a (by simp);have i:=e λx g=>h x (by simp[g]);have:dC (a::l)=max (dC [a]) (dC l):=eL [a] l;rw[this,qM];omega
section
variable {n:Nat} {x:NC} {es:List aj} {ps:List Prod} {w:Nat}
theorem YN{L:List aO}{μ:Mem}(hO:Ow (fi n x es ps w::L) μ){K:Kq}(hk:∀μ',Ow (fi n x es ps w::L) μ'->K (pI ((ps.length:Nat):Int)) μ'):aa prog 59 [pP n 0] μ K:=by
 obtain⟨T,ms,ids,tk,ct,fr,mn,⟨hR,mF⟩,h1⟩:=fi.open_ hO;refine CO.c ⟨_,aH (an.xt (x:=x) (es:=es) (ms:=ms) (ids:=ids) h1 (by simp)) (by simp),?_⟩;refine RP.afw (l:=ps.map (gl T.B)) (Ow.ord [2] h1) ⟨_,rfl,?_⟩;rw[length_map];exact hk μ hO
theorem aa7(hw:w<=1000){L:List aO}{μ:Mem}(hO:Ow (fi n x es ps w::L) μ){K:Kq}(hk:∀μ',Ow (fi n x es ps w::L) μ'->K (pI ((lW es ps:Nat):Int)) μ'):aa prog 23 [pP n 0] μ K:=by
 obtain⟨T,ms,ids,tk,ct,fr,mn,⟨hR,mF⟩,h1⟩:=fi.open_ hO;have nH:ps.length<=1000:=le_trans hR.Kb hw;refine zX.c λb3 Hw=>?_;refine(h1.new 3 [pI 0] Hw).st 0 rfl (by simp) λu h=>?_;refine⟨_,aH (an.xt (x:=x) (es:=es) (ms:=ms) (ids:=ids) h (by simp)) (by simp),(RP.rm x.pr).call ⟨_,_,_,rfl,?_⟩⟩;have n_:((ps.map (gl T.B)).map λy=>[RP.cY y.1,RP.gN y.2]).length=ps.length:=by simp
 refine bk.own (RP.fI x.pr (ps.map (gl T.B)) (by simp;omega)) (Ow.at 3 rfl h)
  (λk u=>Ow (gf n x es ms ids T tk ct fr mn ps (Pt b3 3 [pI ((lW es (ps.take k):Nat):Int)]::L)) u) (λ_ _=>False) (λk=>eW.own _) (λ_ _ _ _ h=>h.elim) (λμ' h'=>?_) ?_ ?_ (λ_ _ h=>h.elim)
 .have h2:Ow (RP.cy x.pr (ps.map (gl T.B))::Pt b3 3 [pI 0]::an n x es ms ids::cj T tk ct fr mn::RT.At x.el es::L) μ':=h';exact Ow.ord [2,2,0,1,0] h2
 .rintro k dY u2 R h2 bT _;have bZ:k<ps.length:=by simpa using dY
  have hm:=getElem_mem bZ;have hD:=hR.pD _ hm;obtain⟨_,_,_,_,_,g1,g2⟩:=(hR.Ee _ hm).facts;rw[getElem_map,getElem_map];refine⟨_,_,_,_,_,_,_,_,rfl,?_⟩;have hwl:((dQ T.B ps[k].conds).map λb=>[pP b 0]).length=ps[k].conds.length:=by rw[length_map,jA]
  dsimp only[gl];refine ak.each (n:=ps[k].conds.length) (by omega) (λi u=>Ow (gf n x es ms ids T tk ct fr mn ps (Pt b3 3 [pI ((max (lW es (ps.take k)) (dC ((range i).flatMap λi=>gA es (ps[k].conds.take (i+1)))):Nat):Int)]::L)) u) ?_ ?_ ?_
  .have:max (lW es (ps.take k)) (dC ((range 0).flatMap λi=>gA es (ps[k].conds.take (i+1))))=lW es (ps.take k):=by simp[dC]
   rw[this];exact h2
  .rintro i u3 next hi h3 au
   have hDi:ps[k].conds.take (i+1)∈T.D:=hR.core.tree.OG hD (take_prefix _ _);have ep:ps[k].conds.take (i+1)=ps[k].conds.take i++[ps[k].conds[i]]:=by rw[take_add_one,getElem?_eq_getElem hi];rfl
   obtain⟨F,hF⟩:=cj.rd hDi (Ow.swap h3);refine ab.t (by simpa[jA]using hi) ⟨by omega,_,Fc T.B _ hi,_,rfl,?_⟩;dsimp only[nP,nn,aM];have hct:ct (ps[k].conds.take (i+1))=gA es (ps[k].conds.take (i+1)):=by
    rw[ep]at hDi |-;rw[hR.core.dW.cnt _ _ hDi,jL]
   have dF:ay u3 (T.B (ps[k].conds.take (i+1))) (0+10) 1=some [.list 1 F.k ((gA es (ps[k].conds.take (i+1))).map kD)]:=by
    have:=aH (o:=0+10) (n:=1) hF (by simp);dsimp only[gK]at this;rw[hct]at this;exact this
   refine⟨_,_,dF,?_⟩;have ij:(gA es (ps[k].conds.take (i+1))).length<=1000:=by
    rw[ep,jL];unfold km;rw[length_map,List.length_range];rw[ep]at hDi;have:=(hR.core.tree.OJ hDi).2;omega
   generalize nu:gA es (ps[k].conds.take (i+1))=cs at*
   generalize hmx:max (lW es (ps.take k)) (dC ((range i).flatMap λi=>gA es (ps[k].conds.take (i+1))))=mx at*
   refine ak.each (n:=cs.length) (by omega) (λj u=>Ow (gf n x es ms ids T tk ct fr mn ps (Pt b3 3 [pI ((max mx (dC (cs.take j)):Nat):Int)]::L)) u) ?_ ?_ ?_
   .have:max mx (dC (cs.take 0))=mx:=by simp[dC]
    rw[this];exact h3
   .rintro j u4 jr hj h4 iT;have eh:(cs.map kD)[Int.toNat (j:Int)]?=some [pI ((cs[j]:Nat):Int)]:=by
     rw[Int.toNat_natCast,List.getElem?_map,getElem?_eq_getElem hj];rfl
    refine ab.t (by simpa using hj) ⟨by omega,_,eh,_,rfl,_,h4.rd 4 rfl (by simp),?_⟩;refine h4.st 4 rfl (by simp) λu5 h5=>iT _ ?_;have e:du [pI ((max mx (dC (cs.take j)):Nat):Int)] 0 [pI (if((cs[j]:Nat):Int)>((max mx (dC (cs.take j)):Nat):Int)then((cs[j]:Nat):Int)else((max mx (dC (cs.take j)):Nat):Int))]=[pI ((max mx (dC (cs.take (j+1))):Nat):Int)]:=by
     have e1:dC (cs.take (j+1))=max (dC (cs.take j)) cs[j]:=by
      rw[take_add_one,getElem?_eq_getElem hj,eL];show max _ (dC [cs[j]])=_;rw[qM]
     rw[e1];show[pI _]=_;congr 2;split<;>omega
    rw[e]at h5;exact h5
   .rintro u4 jr h4;rw[take_length]at h4;refine ab.f (by simp) (au _ ?_);have e:max (lW es (ps.take k)) (dC ((range (i+1)).flatMap λi=>gA es (ps[k].conds.take (i+1))))=max mx (dC cs):=by
     rw[range_succ,flatMap_append,eL,<- hmx];simp only[flatMap_cons,flatMap_nil,append_nil,nu];omega
    rw[e];exact h4
  .rintro u3 next h3
   refine ab.f (by simp[jA]) (bT _ ?_);have e:lW es (ps.take (k+1))=max (lW es (ps.take k)) (dC ((range ps[k].conds.length).flatMap λi=>gA es (ps[k].conds.take (i+1)))):=by
    unfold lW;rw[Cc bZ,eL];rfl
   rw[e];exact h3
 .intro u2 h2;rw[n_,take_length]at h2;dsimp only[PK];refine⟨_,h2.rd 4 rfl (by simp),hk u2 (fi.shut (fr:=fr) (mn:=mn) hR mF ?_)⟩;exact h2.tail λ_ h=>h.tail λ_ h=>h.tail λ_ h=>h.tail λ_ h=>h.drop
end
structure cS where
 tags:List Int
 binds:List aP.Bind
 at_:Int
@[reducible] def cS.pv(t:cS):List PV:=[.list 1 .sh (t.tags.map fO),.list 4 .sh (t.binds.map Bind.pv),pI t.at_]
def cS.tok(t:cS):bY:=⟨t.tags,t.binds⟩
def lG(ts:List cS):List (List aP.Bind):=ts.map cS.binds
def bG(es:List aj)(c:ae)(ts:List cS):List cS:=
 if c.kind=1 then ts.flatMap λt=>(aY c t.binds es).map λx=>⟨t.tags++[x.1.tag],x.2,t.at_⟩else ts.filter λt=> !(ji es c t.binds).isEmpty
def cE(es:List aj)(l:List ae)(ts:List cS):List cS:=l.foldl (λts c=>bG es c ts) ts
def rJ(es:List aj)(c:ae)(a b:List cS):bG es c (a++b)=bG es c a++bG es c b:=by
 unfold bG;split
 .rw[flatMap_append]
 .rw[List.filter_append]
def AS(es:List aj):∀(l:List ae) (a b:List cS),cE es l (a++b)=cE es l a++cE es l b
 |[],_,_=>rfl
 |c::l,a,b=>by
  show cE es l (bG es c (a++b))=cE es l (bG es c a)++cE es l (bG es c b)
  rw[rJ];exact AS es l _ _
def HQ(es:List aj)(l:List ae)(c:ae)(ts:List cS):cE es (l++[c]) ts=bG es c (cE es l ts):=by unfold cE;rw[foldl_append];rfl
def mN{es:List aj}{l:List ae}{i:Nat}(g:i<l.length)(ts:List cS):cE es (l.take (i+1)) ts=bG es l[i] (cE es (l.take i) ts):=by
 have e:l.take (i+1)=l.take i++[l[i]]:=by rw[take_add_one,getElem?_eq_getElem g];rfl
 rw[e,HQ]
theorem WR{es:List aj}{c:ae}(hk:c.kind≠1)(b:List aP.Bind):ji es c b=if(ji es c b).isEmpty then[]else[b]:=by
 rw[mc,if_neg hk]
 repeat' split
 all_goals first|rfl|simp_all
theorem qy(es:List aj)(c:ae)(ts:List cS):lG (bG es c ts)=(lG ts).flatMap λb=>ji es c b:=by
 induction ts with
 |nil=>unfold bG lG;simp
 |cons t ts ih=>
  have e:t::ts=[t]++ts:=rfl;rw[e,rJ];unfold lG at ih |-;rw[map_append,ih,map_append,flatMap_append];congr 1;unfold bG;by_cases hk:c.kind=1
  .rw[if_pos hk];simp only[flatMap_cons,flatMap_nil,append_nil,map_map,map_cons,map_nil];rw[mc,if_pos hk];rfl
  .rw[if_neg hk];simp only[map_cons,map_nil,flatMap_cons,flatMap_nil,append_nil,filter_cons,List.filter_nil];rw[WR hk t.binds];split<;>split<;>simp_all
theorem iJ(es:List aj):∀(l:List ae) (ts:List cS),lG (cE es l ts)=jQ es l (lG ts)
 |[],_=>rfl
 |c::l,ts=>by
  show lG (cE es l (bG es c ts))=_
  rw[iJ es l,qy];rfl
def Ol(es:List aj)(c:ae)(ts:List cS):(bG es c ts).map cS.tok=stepT es c (ts.map cS.tok):=by
 unfold bG stepT;by_cases e:c.kind=1
 .rw[if_pos e,if_pos e,List.map_flatMap,List.flatMap_map];congr 1;funext t;rw[map_map];rfl
 .rw[if_neg e,if_neg e,List.filter_map];rfl
def AR(es:List aj):∀(l:List ae) (ts:List cS),(cE es l ts).map cS.tok=l.foldl (λts c=>stepT es c ts) (ts.map cS.tok)
 |[],_=>rfl
 |c::l,ts=>by
  show(cE es l (bG es c ts)).map _=_
  rw[AR es l,Ol];rfl
def Df:cS:=⟨[],[],0⟩
def mM(es:List aj)(l:List ae):(cE es l [Df]).map cS.tok=aE es l:=AR es l _
def QU{es:List aj}{c:ae}{ts:List cS}{i:Int}(h:∀t∈ts,t.at_=i):∀t∈bG es c ts,t.at_=i:=by
 intro t e;unfold bG at e;split at e
 .obtain⟨g,r,j⟩:=mem_flatMap.1 e;obtain⟨x,_,rfl⟩:=mem_map.1 j;exact h g r
 .exact h t (mem_filter.1 e).1
def DQ{es:List aj}:∀{l:List ae} {ts:List cS} {i:Int},(∀t∈ts,t.at_=i)->∀t∈cE es l ts,t.at_=i
 |[],_,_,h=>h
 |c::l,ts,i,h=>DQ (l:=l) (QU h)
def o_(k:Nat):List cS->List cS
 |[]=>[]
 |t::e=>⟨[],t.binds,(k:Nat)⟩::o_ (k+1) e
theorem oZ:∀(k:Nat) (ts:List cS),lG (o_ k ts)=lG ts
 |_,[]=>rfl
 |k,t::ts=>by
  have:=oZ (k+1) ts
  unfold lG at this |-;simp only[o_,map_cons,this]
def BP:∀(k:Nat) (ts:List cS),(o_ k ts).length=ts.length
 |_,[]=>rfl
 |k,t::ts=>by simp only[o_,length_cons,BP (k+1) ts]
def Ga:∀(k:Nat) (ts:List cS),∀t∈o_ k ts,((k:Nat):Int)<=t.at_/\t.tags=[]
 |_,[],_,h=>by simp[o_]at h
 |k,t::ts,x,h=>by
  simp only[o_,mem_cons]at h
  rcases h with rfl|h
  .exact⟨Int.le_refl _,rfl⟩
  .have:=Ga (k+1) ts x h
   exact⟨by omega,this.2⟩
def EA(l:List cS)(i:Int):Bool:=l.any λt=>t.at_ == i
theorem BX(es:List aj)(l:List ae):∀(ts:List cS) (k i:Nat) (h:i<ts.length),EA (cE es l (o_ k ts)) ((k+i:Nat):Int)= !(jQ es l [ts[i].binds]).isEmpty
 |[],_,_,h=>by simp at h
 |t::ts,k,i,h=>by
  have e:o_ k (t::ts)=[⟨[],t.binds,(k:Nat)⟩]++o_ (k+1) ts:=rfl
  have h1:∀x∈cE es l [(⟨[],t.binds,(k:Nat)⟩:cS)],x.at_=(k:Nat):=DQ (by simp);have xx:∀(l:List ae) (k:Nat) (us:List cS),(∀t∈us,((k:Nat):Int)<=t.at_)->∀t∈cE es l us,((k:Nat):Int)<=t.at_:=by
   intro l k;induction l with
   |nil=>intro us h;exact h
   |cons c l ih=>
    intro us h;refine ih _ λt ht=>?_;have ht:t∈bG es c us:=ht;unfold bG at ht;split at ht
    .obtain⟨t',h1,h2⟩:=mem_flatMap.1 ht;obtain⟨x,_,rfl⟩:=mem_map.1 h2;exact h t' h1
    .exact h t (mem_filter.1 ht).1
  rw[e,AS];unfold EA;rw[List.any_append];cases i with
  |zero=>
   have h2:(cE es l (o_ (k+1) ts)).any (λt=>t.at_ == ((k+0:Nat):Int))=false:=by
    rw[List.any_eq_false];intro x hx;have:=xx l (k+1) _ (λt ht=>(Ga (k+1) ts t ht).1) x hx;simp only[beq_iff_eq];omega
   rw[h2,Bool.or_false];have h3:=iJ es l [(⟨[],t.binds,(k:Nat)⟩:cS)];have h4:lG [(⟨[],t.binds,(k:Nat)⟩:cS)]=[t.binds]:=rfl;rw[h4]at h3;simp only[List.getElem_cons_zero];rw[<- h3];cases hs:cE es l [(⟨[],t.binds,(k:Nat)⟩:cS)]with
   |nil=>rfl
   |cons x r=>
    rw[hs]at h1;have:=h1 x (by simp);simp[lG,this]
  |succ i=>
   have h2:(cE es l [(⟨[],t.binds,(k:Nat)⟩:cS)]).any (λt=>t.at_ == ((k+(i+1):Nat):Int))=false:=by
    rw[List.any_eq_false];intro x hx;have:=h1 x hx;simp only[beq_iff_eq];omega
   rw[h2,Bool.false_or];have:=BX es l ts (k+1) i (by simpa using h);unfold EA at this;rw[show k+(i+1)=k+1+i from by omega,this];rfl
def HL{h e:Type}(f:e->Nat)(g:h->List e):∀l:List h,((l.flatMap g).map f).sum=(l.map λa=>((g a).map f).sum).sum
 |[]=>rfl
 |x::l=>by rw[flatMap_cons,map_append,List.sum_append,HL f g l];rfl
theorem GK(es:List aj):∀(cs:List ae) (rows:List (List aP.Bind)) (j:Nat),cL es cs rows j=(rows.map λb=>cL es cs [b] j).sum
 |[],rows,j=>by simp only[cL];induction rows with
  |nil=>rfl
  |cons b rows ih=>simp only[map_cons,sum_cons,<- ih]
 |c::cs,rows,j=>by
  simp only[cL]
  by_cases h:j<aQ c
  .simp only[if_pos h,map_cons,map_nil,sum_cons,List.sum_nil,Nat.add_zero]
  .simp only[if_neg h]
   rw[GK es cs,HL]
   congr 1
   refine map_congr_left λb _=>?_
   rw[GK es cs ([b].flatMap _)]
   simp
def On{es:List aj}{c:ae}{ts:List cS}(e:c.kind≠1):(bG es c ts).length<=ts.length:=by
 unfold bG;rw[if_neg e];exact length_filter_le _ _
theorem Oo(es:List aj)(c:ae)(ts:List cS):(bG es c ts).length=((lG ts).flatMap λb=>ji es c b).length:=by
 rw[<- qy];unfold lG;simp
theorem tq{es:List aj}{l:List ae}{i:Nat}(hi:i<l.length)(ts:List cS):(cE es (l.take (i+1)) ts).length=dz es l[i] (jQ es (l.take i) (lG ts)) 0:=by
 rw[mN hi,Oo,iJ,xH]
def AW{es:List aj}{c:ae}{ts:List cS}{m:Nat}(h:∀t∈ts,t.tags.length<=m):∀t∈bG es c ts,t.tags.length<=m+1:=by
 intro t e;unfold bG at e;split at e
 .obtain⟨g,j,i⟩:=mem_flatMap.1 e;obtain⟨x,_,rfl⟩:=mem_map.1 i;have:=h g j;simp;omega
 .exact Nat.le_succ_of_le (h t (mem_filter.1 e).1)
def qx{es:List aj}:∀{l:List ae} {ts:List cS} {m:Nat},(∀t∈ts,t.tags.length<=m)->∀t∈cE es l ts,t.tags.length<=m+l.length
 |[],_,_,h=>h
 |c::l,ts,m,h=>λt e=>by
  have:=qx (l:=l) (AW h) t e
  simp only[length_cons];omega
theorem qu(es:List aj)(l:List ae):(aE es l).map bY.binds=jQ es l [[]]:=by
 have h1:=mM es l;have h2:=iJ es l [Df];rw[<- h1,map_map];exact h2
def Co(es:List aj)(c:ae)(ts:List bY)(j:Nat):dI es c ts j=dz es c (ts.map bY.binds) j:=by
 unfold dI dz;rw[map_map];rfl
theorem GM(es:List aj)(B:Int):∀(l:List ae) (rows:List (List aP.Bind)),(∃j,B<((cL es l rows j:Nat):Int))↔B<0\/∃(i:Nat) (h:i<l.length) (j:Nat),B<((dz es l[i] (jQ es (l.take i) rows) j:Nat):Int)
 |[],rows=>by
  constructor
  .rintro⟨j,h⟩;simp only[cL]at h;exact .inl h
  .rintro(h|⟨i,h,_⟩)
   .exact⟨0,h⟩
   .simp at h
 |c::cs,rows=>by
  have ih:=GM es B cs (rows.flatMap λb=>ji es c b)
  constructor
  .rintro⟨j,h⟩;simp only[cL]at h;by_cases hj:j<aQ c
   .rw[if_pos hj]at h;exact .inr ⟨0,by simp,j,h⟩
   .rw[if_neg hj]at h;rcases ih.1 ⟨_,h⟩with h|⟨i,hi,j',h⟩
    .exact .inl h
    .exact .inr ⟨i+1,by simpa using hi,j',h⟩
  .rintro(h|⟨i,hi,j,h⟩)
   .exact⟨0,by omega⟩
   .cases i with
    |zero=>
     by_cases hj:j<aQ c
     .refine⟨j,?_⟩;simp only[cL];rw[if_pos hj];exact h
     .have:dz es c rows j=0:=HO es c rows (by omega);simp only[List.getElem_cons_zero,List.take_zero,jQ]at h;rw[this]at h;exact⟨0,by omega⟩
    |succ i=>
     obtain⟨j',h'⟩:=ih.2 (.inr ⟨i,by simpa using hi,j,h⟩);refine⟨aQ c+j',?_⟩;simp only[cL];rw[if_neg (by omega),Nat.add_sub_cancel_left];exact h'
theorem MV{es:List aj}{B:Int}(hB:0<=B)(l:List ae):(∃j,B<((cL es l [[]] j:Nat):Int))↔dG B es l:=by
 rw[GM];constructor
 .rintro(h|⟨i,hi,j,h⟩)
  .omega
  .exact⟨i,hi,j,by rw[Co,qu];exact h⟩
 .rintro⟨i,hi,j,h⟩;exact .inr ⟨i,hi,j,by rw[Co,qu]at h;exact h⟩
def tC{es g:List aj}(h:es.Perm g){B:Int}{l:List ae}:dG B es l↔dG B g l:=by
 unfold dG;constructor
 .rintro⟨i,e,j,k⟩;exact⟨i,e,j,by rw[<- EP h l[i] (lI h _)];exact k⟩
 .rintro⟨i,e,j,k⟩;exact⟨i,e,j,by rw[EP h l[i] (lI h _)];exact k⟩
def Ii(f:Nat->Nat)(a b:Nat):(range (a+b)).map f=(range a).map f++(range b).map λj=>f (a+j):=by
 rw[List.range_add,map_append,map_map];rfl
theorem NK(es:List aj):∀(l:List ae) (rows:List (List aP.Bind)),(range (ah l)).map (cL es l rows)=(range l.length).flatMap λi=>(range (aQ (l[i]?.getD HA))).map (dz es (l[i]?.getD HA) (jQ es (l.take i) rows))
 |[],_=>rfl
 |c::cs,rows=>by
  have ih:=NK es cs (rows.flatMap λb=>ji es c b)
  simp only[ah,length_cons];rw[Ii,List.range_succ_eq_map,flatMap_cons,List.flatMap_map];congr 1
  .refine map_congr_left λj hj=>?_;have hj:=mem_range.1 hj;simp only[cL];rw[if_pos hj];rfl
  .have e:(λj=>cL es (c::cs) rows (aQ c+j))=cL es cs (rows.flatMap λb=>ji es c b):=by
    funext j;simp only[cL];rw[if_neg (by omega),Nat.add_sub_cancel_left]
   rw[e,ih];rfl
theorem uh(es:List aj)(l:List ae):pd es l=(range (ah l)).map (cL es l [[]]):=by
 rw[NK];unfold pd;rw[List.flatMap_def,List.flatMap_def];congr 1;refine map_congr_left λi hi=>?_;have hi:=mem_range.1 hi;have e:l.take (i+1)=l.take i++[l[i]]:=by rw[take_add_one,getElem?_eq_getElem hi];rfl
 rw[e,jL,getElem?_eq_getElem hi];unfold km;refine map_congr_left λj _=>?_;rw[Co,qu];rfl
def OU(a:Nat)(l:List Nat):dC (a::l)=max a (dC l):=by
 have:=eL [a] l;rw[qM]at this;exact this
def OT{l:List Nat}(h:∀x∈l,x=0):dC l=0:=Nat.le_zero.1 (VY λx e=>Nat.le_of_eq (h x e))
def Le{f:Nat->Nat}{N M:Nat}(g:∀j,N<=j->f j=0)(i:∀j,M<=j->f j=0):dC ((range N).map f)=dC ((range M).map f):=by
 have key:∀{N M:Nat},N<=M->(∀j,N<=j->f j=0)->dC ((range M).map f)=dC ((range N).map f):=λ{N M} h r=>by
  obtain⟨k,rfl⟩:∃k,M=N+k:=⟨M-N,by omega⟩;rw[Ii,eL,OT (l:=(range k).map _)]
  .omega
  .intro x e;obtain⟨j,_,rfl⟩:=mem_map.1 e;exact r _ (by omega)
 rcases Nat.le_total N M with h|h
 .exact(key h g).symm
 .exact key h i
def GG{es e:List aj}(h:es.Perm e)(l:List ae):pd es l=pd e l:=by
 rw[uh,uh];exact map_congr_left λj _=>GL h l (List.Perm.refl _) j
def ZX{T:Type}{key:T->List Int}{L:List T}(U:ch bn key L){x:T}{i:Nat}(I:i<=L.length)(H:∀y∈L,key y≠key x)(Y:∀(j:Nat) (h:j<L.length),i<=j->bn (key x) (key L[j])<0)(C:i=0\/∃h:i-1<L.length,¬bn (key x) (key L[i-1])<0):L.take i++x::L.drop i=aZ bn key x L:=by
 have G:∀(j:Nat) (h:j<L.length),j<i->bn (key L[j]) (key x)<0:=λj h g=>by
  rcases C with C|⟨r,C⟩
  .omega
  .have J:bn (key L[i-1]) (key x)<0:=by
    have:=(eJ.flip (key L[i-1]) (key x));have hz:bn (key L[i-1]) (key x)≠0:=λe=>H _ (getElem_mem r) ((eJ.zero _ _).1 e);have Wj:bn (key x) (key L[i-1])≠0:=λe=>H _ (getElem_mem r) ((eJ.zero _ _).1 e).symm;omega
   by_cases e:j=i-1
   .subst e;exact J
   .have:=List.pairwise_iff_getElem.1 U j (i-1) h r (by omega);exact eJ.trans _ _ _ this J
 have Q:∀(j:Nat) (h:j<L.length),i<=j->0<bn (key L[j]) (key x):=λj h g=>by
  have:=Y j h g;have:=eJ.flip (key x) (key L[j]);omega
 unfold aZ
 rw[nc (k:=i) I (λj h g=>by simp[BB,G j h g]) (λj h g=>by have:=Q j h g;simp[BB];omega),
  rb (k:=i) I (λj h g=>by have:=G j h g;simp[Gr];omega) (λj h g=>by simp[Gr,Q j h g])]
abbrev ui(N:Nat)(e:Nat->Nat):Lq:=(range N).map λi=>[pI ((e i:Nat):Int)]
def qd(z:Nat)(R:Int)(o:Bool)(N:Nat)(g:Nat->Nat):aO:=λe=>∃a c,Ow [Pt z 262 [pV a N c,pI R,pB o],ca 3 1 (pV a N c) (ui N g)] e
def qd.open_{z:Nat}{R:Int}{o:Bool}{N:Nat}{g:Nat->Nat}{L:List aO}{e:Mem}(h:Ow (qd z R o N g::L) e):∃a c,Ow (Pt z 262 [pV a N c,pI R,pB o]::ca 3 1 (pV a N c) (ui N g)::L) e:=by
 obtain⟨a,h⟩:=Ow.ex h;obtain⟨c,h⟩:=Ow.ex h;exact⟨a,c,h.nest⟩
def qd.shut{z:Nat}{R:Int}{o:Bool}{N c:Nat}{a:Option Addr}{i:Nat->Nat}{L:List aO}{g:Mem}(h:Ow (Pt z 262 [pV a N c,pI R,pB o]::ca 3 1 (pV a N c) (ui N i)::L) g):Ow (qd z R o N i::L) g:=
 (Ow.pack (L1:=[_,_]) h).imp λ_ e=>⟨a,c,e⟩
def PC{N:Nat}{e:Nat->Nat}(h:e N=0):ui N e++[[pI 0]]=ui (N+1) e:=by
 unfold ui;rw[range_succ,map_append,List.map_singleton,h];rfl
def afv{z N:Nat}{R:Int}{o:Bool}{i:Nat->Nat}(hz:∀j,N<=j->i j=0)(n k:Nat)(hn:n<=100000)(hN:N<=100000){L:List aO}{Q:Mem}(y:Ow (qd z R o N i::L) Q){K:Kq}
  (J:∀C,Ow (qd z R (o||decide (R<(k:Int))) (max N (n+1)) (mK i n k)::L) C->K (.aB []) C):aa prog 236 [pP z 0,pI (n:Nat),pI (k:Nat)] Q K:=by
 refine nz.c ?_;refine⟨λm _ u=>∃g,N<=g/\g<=max N (n+1)/\m=max N (n+1)-g/\Ow (qd z R o g i::L) u,⟨_,N,Nat.le_refl _,by omega,rfl,y⟩,?_⟩;rintro m _ u ⟨g,h1,h2,rfl,y⟩;obtain⟨a,c,y⟩:=qd.open_ y;refine⟨_,_,_,y.rd 0 rfl (by simp),ab.mk (λh=>?_) (λh=>?_)⟩
 .have h:g<=n:=by simp at h;omega
  obtain⟨a',c',e,kE⟩:=ca.app y.swap (yt g i);have I:(ui g i).length=g:=by simp
  simp only[PV.raw.injEq,Value.slice.injEq]at e;obtain⟨rfl,_,rfl⟩:=e;rw[I]at kE;refine⟨_,_,_,y.rd 0 rfl (by simp),?_⟩;refine kE _ _ _ rfl rfl (by omega) (by omega) λb2 c2 Y r=>?_;rw[PC (hz g h1)]at r;refine r.st 1 rfl (by simp) λU G=>⟨_,?_,g+1,by omega,by omega,rfl,qd.shut G.swap⟩;omega
 .have h:n<g:=by simp at h;omega
  have hm:max N (n+1)=g:=by omega
  have I:n<(ui g i).length:=by simpa using h
  obtain⟨b,rfl,_,fF⟩:=ca.at_ 1 y rfl (yt g i) (j:=n) I;refine⟨_,_,_,y.rd 0 rfl (by simp),by omega,by omega,?_⟩;rw[Int.toNat_natCast];refine fF 0 _ _ (by simp) λY r=>?_;have e:(ui g i).set n (du (ui g i)[n] 0 [pI (k:Nat)])=ui g (mK i n k):=by
   have e1:du (ui g i)[n] 0 [pI (k:Nat)]=[pI ((k:Nat):Int)]:=by simp[du]
   rw[e1];exact Tv h
  have r:Ow (Pt z 262 [pV (some ⟨b,0,none⟩) g c,pI R,pB o]::ca 3 1 (pV (some ⟨b,0,none⟩) g c) ((ui g i).set n (du (ui g i)[n] 0 [pI (k:Nat)]))::L) Y:=r;rw[e]at r;rw[hm]at J;refine⟨_,r.rd 0 rfl (by simp),ab.mk (λH=>?_) (λH=>⟨_,r.rd 0 rfl (by simp),?_⟩)⟩
  .subst H;exact r.st 0 rfl (by simp) λU G=>J _ (qd.shut G)
  .subst H;exact r.st 0 rfl (by simp) λU G=>J _ (qd.shut G)
def abj(f:Fl)(l:List cS)(r:l.length<=100000000)(i:Int):Pure prog 260 [.list 3 f (l.map cS.pv),pI i] (pB (EA l i)):=by
 refine av.of (uG.c ?_);refine ak.each (n:=l.length) (by omega) (λk u=>(l.take k).any (λt=>t.at_ == i)=false) (by simp) ?_ ?_
 .intro k u next e g j
  refine ab.t (by simpa using e) ⟨by omega,_,aA e,_,rfl,ab.mk (λh=>?_) (λh=>j _ (by rw[Cy e g];exact h))⟩;show wk (pB true)=_;rw[EA,Md (p:=λt:cS=>t.at_ == i) e h];rfl
 .intro u next g
  rw[take_length]at g;exact ab.f (by simp) (by rw[EA,g];rfl)
def mW:List Int->List Int->Bool
 |[],b=> !b.isEmpty
 |_::_,[]=>false
 |x::a,y::b=>if x=y then mW a b else decide (x<y)
def xX:∀(k:Nat) (a b:List Int),k<=a.length->k<=b.length->a.take k=b.take k->mW a b=mW (a.drop k) (b.drop k)
 |0,_,_,_,_,_=>rfl
 |k+1,[],_,h,_,_=>by simp at h
 |k+1,_::_,[],_,h,_=>by simp at h
 |k+1,x::a,y::b,g,e,h=>by
  simp only[List.take_succ_cons,List.cons.injEq]at h
  obtain⟨rfl,h⟩:=h
  simp only[mW,if_true,List.drop_succ_cons];exact xX k a b (by simpa using g) (by simpa using e) h
def abd(f g:Fl)(a b:List Int)(ha:a.length<=100000000)(U:b.length<=100000000):Pure prog 198 [.list 1 f (a.map fO),.list 1 g (b.map fO)] (pB (mW a b)):=by
 refine av.of (uH.c ⟨λ_ _=>∃k,k<=a.length/\k<=b.length/\a.take k=b.take k/\(k=a.length\/k=b.length),?_,?_⟩)
 .refine ak.each (n:=a.length) (by omega) (λk u=>k<=b.length/\a.take k=b.take k) ⟨by omega,rfl⟩ ?_ ?_
  .rintro k u next j ⟨G,i⟩ Q
   refine ab.t (by simpa using j) (ab.mk (λh=>?_) (λh=>?_))
   .have h:k<b.length:=by simpa using h
    refine⟨by omega,_,aA j,_,rfl,by omega,_,aA h,_,rfl,ab.mk (λI=>?_) (λH=>Q _ ⟨by omega,?_⟩)⟩
    .have I:a[k]≠b[k]:=by simpa using I
     refine⟨by omega,_,aA j,_,rfl,by omega,_,aA h,_,rfl,?_⟩;show wk (pB (decide (a[k]<b[k])))=_;rw[xX k a b (by omega) G i,List.drop_eq_getElem_cons j,List.drop_eq_getElem_cons h,mW,if_neg I];rfl
    .have H:a[k]=b[k]:=by simpa using H
     rw[take_add_one,take_add_one,getElem?_eq_getElem j,getElem?_eq_getElem h,i,H]
   .have h:¬k<b.length:=by simpa using h
    exact⟨k,by omega,by omega,i,.inr (by omega)⟩
  .rintro u next ⟨G,i⟩
   exact ab.f (by simp) ⟨a.length,by omega,G,i,.inl rfl⟩
 .rintro _ u ⟨k,G,i,L,J⟩;show wk (pB (decide ((((a.map fO).length:Nat):Int)<(((b.map fO).length:Nat):Int))))=_;rw[xX k a b G i L];have e:decide ((((a.map fO).length:Nat):Int)<(((b.map fO).length:Nat):Int))=mW (a.drop k) (b.drop k):=by
   rcases J with rfl|rfl
   .rw[List.drop_length];simp only[mW,length_map];cases C:b.drop a.length with
    |nil=>have:=congrArg List.length C;simp at this;simp;omega
    |cons y r=>have:=congrArg List.length C;simp at this;simp;omega
   .rw[List.drop_length];simp only[length_map];cases C:a.drop b.length with
    |nil=>have:=congrArg List.length C;simp at this;simp[mW];omega
    |cons y r=>have:=congrArg List.length C;simp at this;simp[mW];omega
  rw[e];rfl
end Go.Proofs.YthaeiehophlooaaGreat
