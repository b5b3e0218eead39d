import Derived.Test.YthaeiehophlooaaGreatB14
import Derived.Test.YthaeiehophlooaaGreatRows
open Go.IntKind (max min signed wrap)
open List (Pairwise.nil getElem_map getElem_mem getElem_take length_map length_take map_take mem_iff_getElem mem_map nil_prefix take_length)
set_option linter.all false
namespace Go.Proofs.YthaeiehophlooaaGreat
open Go.Proofs.Tryz Go.aP Go.RowKit
set_option maxRecDepth 100000
section
variable {n:Nat} {x:NC} {es:List aj} {ps:List Prod} {w:Nat}
theorem IA(hw:w<=100)(fl2:Fl)(add:List aj)(drop:List Int)(hal:add.length<=400)(hdl:drop.length<=400)(Np:es.length+add.length<=900000)(ahZ:∀e∈add,e.tag<9223372036854775808){ν0:Mem}{a1:Option Addr}{c1:Nat}(hr:∀(k:Nat) (h:k<add.length),∃b,a1=some ⟨b,0,none⟩/\ay ν0 b (0+k*12) 12=some add[k].pv){L:List aO}(hν:∀ρ,Ow L ρ->Mem.inc ν0 ρ){μ:Mem}(hO:Ow (fi n x es ps w::L) μ){K:Kq}
  (hk:∀e oC μ',nC x.T x.M es ps add drop e oC->Ow (fi n x oC ps w::L) μ'->K (pI e) μ'):
  aa prog 33 [pP n 0,.raw (.slice a1 add.length c1),.list 1 fl2 (drop.map fO)] μ K:=by
 obtain⟨T,ms,ids,tk,ct,fr,mn,⟨hR,mF⟩,h1⟩:=fi.open_ hO;obtain⟨ht1,ht2⟩:=hR.tb;obtain⟨zi,sT⟩:=hR.mb;have hA:=hR.core.use.inv;have hI:=hR.ids;have hu:=hA.xD;have hlen:=hA.le;refine sr.c λb3 Hw=>?_;have O1:Ow (an n x es ms ids::cj T tk ct fr mn::RP.cy x.pr (ps.map (gl T.B))::RT.At x.el es::Pt b3 45 [pP n 0]::L) _:=Ow.ord [1,1,1,1,0] (h1.new 45 [pP n 0] Hw);have DT:∀{u:Mem} {M:List aO},Ow (an n x es ms ids::cj T tk ct fr mn::RP.cy x.pr (ps.map (gl T.B))::RT.At x.el es::Pt b3 45 [pP n 0]::M) u->(∀μ,Ow M μ->Ow L μ)->Ow (fi n x es ps w::L) u:=λh hM=>fi.shut hR mF (h.tail λ_ h=>h.tail λ_ h=>h.tail λ_ h=>h.tail λ_ h=>hM _ h.drop);refine ak.cX (n:=add.length) (by omega) (λk s u=>(∀e∈add.take k,ti e=true/\1<=e.tag)/\Ow (an n x es ms ids::cj T tk ct fr mn::RP.cy x.pr (ps.map (gl T.B))::RT.At x.el es::Pt b3 45 [pP n 0]::L) u) ⟨by simp,O1⟩ ?_ ?_
 .rintro k s u next dY ⟨hv,h2⟩ au
  obtain⟨bb,ea,dF⟩:=hr k dY;rw[ea];refine ab.t (by simpa using dY) ⟨by omega,by omega,?_⟩;rw[Int.toNat_natCast];refine⟨_,_,_,_,_,_,_,_,_,_,_,_,oN (hν _ h2.drop.drop.drop.drop.drop) dF,(PI add[k]).call ⟨_,rfl,ab.mk (λhb=>?_) (λhb=>ab.mk (λzN=>?_) (λzN=>au _ _ ⟨λe he=>?_,h2⟩))⟩⟩
  .refine hk _ _ _ (.form λhg=>?_) (DT h2 λ_ h=>h);rw[(hg _ (getElem_mem dY)).1]at hb;cases hb
  .refine hk _ _ _ (.form λhg=>?_) (DT h2 λ_ h=>h);have:=(hg _ (getElem_mem dY)).2;have aiX:add[k].tag<1:=by simpa using zN
   omega
  .rcases(dX dY).1 he with he|rfl
   .exact hv e he
   .have aiX:¬add[k].tag<1:=by simpa using zN
    exact⟨nt hb,by omega⟩
 rintro s u next ⟨hv,h2⟩
 rw[take_length]at hv;have g_:vY add:=hv;refine ab.f (by simp) ?_;clear O1 h1;refine RT.gB h2 .nil [] (by simp) λu1 bo h3=>⟨_,rfl,?_⟩;have h3:Ow (an n x es ms ids::cj T tk ct fr mn::RP.cy x.pr (ps.map (gl T.B))::RT.At x.el es::Pt b3 45 [pP n 0]::RT.At bo []::L) u1:=Ow.ord [1,1,1,1,1,0] h3;dsimp only;refine ak.cX (n:=drop.length) (by omega) (λk s u=>∃O,(ch aw aF O/\(∀e,e∈O↔e∈es/\e.tag∈drop.take k)/\(drop.take k).Nodup/\∀t∈drop.take k,∃e∈es,e.tag=t)/\Ow (an n x es ms ids::cj T tk ct fr mn::RP.cy x.pr (ps.map (gl T.B))::RT.At x.el es::Pt b3 45 [pP n 0]::RT.At bo O::L) u) ⟨[],⟨Pairwise.nil,by simp,by simp,by simp⟩,h3⟩ ?_ ?_
 .rintro k s u next dY ⟨O,⟨UO,Ta,IN,fL⟩,h4⟩ au
  have hOl:O.length<=es.length:=by
   have:=jE (jF UO) (b:=es.map aF) λt ht=>by
    obtain⟨e,he,rfl⟩:=mem_map.1 ht;exact List.mem_map_of_mem ((Ta e).1 he).1
   simpa using this
  have bad:¬(drop[k]∉drop.take k/\∃e∈es,e.tag=drop[k])->¬e_ es drop:=λhb hd=>hb ⟨λhm=>by
   obtain⟨j,hj,e⟩:=mem_iff_getElem.1 hm
   rw[getElem_take]at e
   rw[length_take]at hj
   have:=(List.getElem_inj hd.1 (h₀:=by omega) (h₁:=dY)).1 e
   omega,hd.2 _ (getElem_mem dY)⟩
  refine ab.t (by simpa using dY) ⟨by omega,_,tK dY,_,rfl,_,h4.rd 4 rfl (by simp),?_⟩;refine YP hu (by omega) drop[k] (Ow.ord [0,2] h4) (λe he=>⟨_,_,_,_,_,_,_,_,_,_,_,_,_,rfl,ab.f rfl ?_⟩) (λhn=>⟨_,_,_,_,_,_,_,_,_,_,_,_,_,rfl,ab.t rfl ?_⟩)
  .obtain⟨Pj,het⟩:=(bf ar hu).1 he;have het:e.tag=drop[k]:=het;refine RT.fX (l:=O) (Ow.ord [5] h4) UO (by omega) e λu2 h5=>⟨_,rfl,?_⟩;have h5':Ow (an n x es ms ids::cj T tk ct fr mn::RP.cy x.pr (ps.map (gl T.B))::RT.At x.el es::Pt b3 45 [pP n 0]::RT.At bo (dB RT.ck RT.key e O)::L) u2:=Ow.ord [1,1,1,1,1,0] h5;refine ab.mk (λhb=>?_) (λhb=>?_)
   .refine hk _ _ _ (.none g_ (bad λhh=>?_)) (DT h5' λ_ h=>h.drop);have hs:(aL aw aF e.tag O).isSome=true:=by
     have:(aL aw aF e.tag O).isNone=false:=nb hb;cases hg:aL aw aF e.tag O with
     |none=>rw[hg]at this;cases this
     |some z=>rfl
    obtain⟨z,Sm,Wj⟩:=(ym UO).1 hs;have:=((Ta z).1 Sm).2;rw[Wj,het]at this;exact hh.1 this
   .have hn:aL aw aF e.tag O=none:=by
     have:(aL aw aF e.tag O).isNone=true:=nt hb;cases hg:aL aw aF e.tag O with
     |none=>rfl
     |some z=>rw[hg]at this;cases this
    have Dp:dB RT.ck RT.key e O=aZ aw aF e O:=by
     rw[dB,show aL RT.ck RT.key (RT.key e) O=none from hn];rfl
    rw[Dp]at h5';have hnm:drop[k]∉drop.take k:=λhm=>by
     have:e∈O:=(Ta e).2 ⟨Pj,by rw[het];exact hm⟩;exact rT.1 hn e this rfl
    refine au _ _ ⟨_,⟨UO.ins ar e,λy=>?_,Bx dY IN hnm,λt ht=>?_⟩,h5'⟩
    .rw[bq ar,Ta,dX dY];constructor
     .rintro(rfl|⟨⟨a1,a2⟩,_⟩)
      .exact⟨Pj,.inr het⟩
      .exact⟨a1,.inl a2⟩
     .rintro⟨a1,a2|a2⟩
      .refine .inr ⟨⟨a1,a2⟩,λe'=>hnm ?_⟩;have e':y.tag=e.tag:=e';rw[<- het,<- e'];exact a2
      .exact .inl (hu.inj ar a1 Pj (by show y.tag=e.tag;rw[a2,het]))
    .rcases(dX dY).1 ht with ht|rfl
     .exact fL t ht
     .exact⟨e,Pj,het⟩
  .refine hk _ _ _ (.none g_ (bad λhh=>?_)) (DT h4 λ_ h=>h.drop);obtain⟨e,he,het⟩:=hh.2;exact rT.1 hn e he het
 rintro s u next ⟨O,⟨UO,Ta,IN,fL⟩,h4⟩
 rw[take_length]at Ta IN fL;have yi:e_ es drop:=⟨IN,fL⟩;refine ab.f (by simp) ?_;have hOl:O.length<=drop.length:=by
  have:=jE (jF UO) (b:=drop) λt ht=>by
   obtain⟨e,he,rfl⟩:=mem_map.1 ht;exact((Ta e).1 he).2
  simpa using this
 clear h3;refine RT.gB h4 .nil [] (by simp) λu1 bi h5=>⟨_,rfl,?_⟩;have h5:Ow (an n x es ms ids::cj T tk ct fr mn::RP.cy x.pr (ps.map (gl T.B))::RT.At x.el es::Pt b3 45 [pP n 0]::RT.At bo O::RT.At bi []::L) u1:=Ow.ord [1,1,1,1,1,1,0] h5;dsimp only;refine ak.cX (n:=add.length) (by omega) (λk s u=>∃A,(ch aw aF A/\(∀e,e∈A↔e∈add.take k)/\((add.take k).map aF).Nodup/\∀e∈add.take k,(∃e'∈es,e'.tag=e.tag)->e.tag∈drop)/\Ow (an n x es ms ids::cj T tk ct fr mn::RP.cy x.pr (ps.map (gl T.B))::RT.At x.el es::Pt b3 45 [pP n 0]::RT.At bo O::RT.At bi A::L) u) ⟨[],⟨Pairwise.nil,by simp,by simp,by simp⟩,h5⟩ ?_ ?_
 .rintro k s u next dY ⟨A,⟨YD,WO,SC,WA⟩,h6⟩ au
  have hAl:A.length<=add.length:=by
   have:=jE (jF YD) (b:=add.map aF) λt ht=>by
    obtain⟨e,he,rfl⟩:=mem_map.1 ht;exact List.mem_map_of_mem (List.mem_of_mem_take ((WO e).1 he))
   simpa using this
  have afd:(aL RT.ck RT.key (RT.key add[k]) O).isSome=true↔(∃e'∈es,e'.tag=add[k].tag)/\add[k].tag∈drop:=by
   rw[show aL RT.ck RT.key (RT.key add[k]) O=aL aw aF add[k].tag O from rfl,ym UO];constructor
   .rintro⟨e,he,het⟩;obtain⟨a1,a2⟩:=(Ta e).1 he;exact⟨⟨e,a1,het⟩,by rw[<- het];exact a2⟩
   .rintro⟨⟨e,he,het⟩,hd⟩;exact⟨e,(Ta e).2 ⟨he,by rw[het];exact hd⟩,het⟩
  have bad:¬(add[k].tag∉(add.take k).map aF/\((∃e'∈es,e'.tag=add[k].tag)->add[k].tag∈drop))->¬eT es add drop:=λhb hd=>hb ⟨λhm=>by
   obtain⟨e,he,het⟩:=mem_map.1 hm
   obtain⟨j,hj,rfl⟩:=mem_iff_getElem.1 he
   rw[getElem_take]at het
   rw[length_take]at hj
   have:=(List.getElem_inj hd.1 (i:=j) (j:=k) (h₀:=by simp;omega) (h₁:=by simpa using dY)).1 (by simpa[aF]using het)
   omega,hd.2 _ (getElem_mem dY)⟩
  have KQ:((∃e'∈es,e'.tag=add[k].tag)->add[k].tag∈drop)->∀{u:Mem} {G:Mem->Prop},Ow (an n x es ms ids::cj T tk ct fr mn::RP.cy x.pr (ps.map (gl T.B))::RT.At x.el es::Pt b3 45 [pP n 0]::RT.At bo O::RT.At bi A::L) u->aa prog 74 [pP bi 0,.agg add[k].pv] u λv_8 Oa=>∃(XE:Bool),v_8=(pB XE)/\ab (!XE) (K (pI (3)) Oa) (next (s,(wrap .i64 ((k:Int)+(1)))) Oa):=λxw {u G} h7=>by
   refine RT.fX (l:=A) (Ow.ord [6] h7) YD (by omega) add[k] λu2 h8=>⟨_,rfl,?_⟩;have h8':Ow (an n x es ms ids::cj T tk ct fr mn::RP.cy x.pr (ps.map (gl T.B))::RT.At x.el es::Pt b3 45 [pP n 0]::RT.At bo O::RT.At bi (dB RT.ck RT.key add[k] A)::L) u2:=Ow.ord [1,1,1,1,1,1,0] h8;refine ab.mk (λhb=>?_) (λhb=>?_)
   .refine hk _ _ _ (.there g_ yi (bad λhh=>hh.1 ?_)) (DT h8' λ_ h=>h.drop.drop);have hs:(aL aw aF add[k].tag A).isSome=true:=by
     have:(aL aw aF add[k].tag A).isNone=false:=nb hb;cases hg:aL aw aF add[k].tag A with
     |none=>rw[hg]at this;cases this
     |some z=>rfl
    obtain⟨z,Sm,Wj⟩:=(ym YD).1 hs;exact mem_map.2 ⟨z,(WO z).1 Sm,Wj⟩
   .have hn:aL aw aF add[k].tag A=none:=by
     have:(aL aw aF add[k].tag A).isNone=true:=nt hb;cases hg:aL aw aF add[k].tag A with
     |none=>rfl
     |some z=>rw[hg]at this;cases this
    have Dp:dB RT.ck RT.key add[k] A=aZ aw aF add[k] A:=by
     rw[dB,show aL RT.ck RT.key (RT.key add[k]) A=none from hn];rfl
    rw[Dp]at h8';have hnm:∀y∈add.take k,y.tag≠add[k].tag:=λy hy=>rT.1 hn y ((WO y).2 hy);refine au _ _ ⟨_,⟨YD.ins ar _,λy=>?_,?_,λe he=>?_⟩,h8'⟩
    .rw[bq ar,WO,dX dY];constructor
     .rintro(rfl|⟨a1,_⟩)
      .exact .inr rfl
      .exact .inl a1
     .rintro(a1|rfl)
      .exact .inr ⟨a1,hnm y a1⟩
      .exact .inl rfl
    .have hk3:k<(add.map aF).length:=by simpa using dY
     rw[map_take]at SC |-;refine Bx hk3 SC λhm=>?_;rw[<- map_take]at hm;obtain⟨y,hy,hyt⟩:=mem_map.1 hm;rw[getElem_map]at hyt;exact hnm y hy hyt
    .rcases(dX dY).1 he with he|rfl
     .exact WA e he
     .exact xw
  obtain⟨bb,ea,dF⟩:=hr k dY;rw[ea];refine ab.t (by simpa using dY) ⟨by omega,by omega,?_⟩;rw[Int.toNat_natCast];refine⟨_,_,_,_,_,_,_,_,_,_,_,_,oN (hν _ h6.drop.drop.drop.drop.drop.drop.drop) dF,_,h6.rd 4 rfl (by simp),?_⟩;have place:∀{Kx:Kq},Kx (.aB [pI ((VH RT.ck RT.key (RT.key add[k]) O:Nat):Int),pB (aL RT.ck RT.key (RT.key add[k]) O).isSome]) u->aa prog 75 [pP bo 0,.agg add[k].pv] u Kx:=λhKx=>RT.rl (l:=O) (Ow.ord [5] h6) UO (by omega) add[k] hKx;refine YP hu (by omega) add[k].tag (Ow.ord [0,2] h6) (λe he=>⟨_,_,_,_,_,_,_,_,_,_,_,_,_,rfl,place ⟨_,_,rfl,ab.t rfl (ab.mk (λhb=>?_) (λhb=>?_))⟩⟩) (λhn=>⟨_,_,_,_,_,_,_,_,_,_,_,_,_,rfl,place ⟨_,_,rfl,ab.f rfl ?_⟩⟩)
  .obtain⟨Pj,het⟩:=(bf ar hu).1 he;refine hk _ _ _ (.there g_ yi (bad λhh=>?_)) (DT h6 λ_ h=>h.drop.drop);have:=afd.2 ⟨⟨e,Pj,het⟩,hh.2 ⟨e,Pj,het⟩⟩;rw[this]at hb;cases hb
  .exact KQ (λ_=>(afd.1 (nt hb)).2) (G:=λ_=>True) h6
  .exact KQ (λ⟨e,he,het⟩=>absurd het (rT.1 hn e he)) (G:=λ_=>True) h6
 rintro s u next ⟨A,⟨YD,WO,SC,WA⟩,h6⟩
 rw[take_length]at WO SC WA;have zm:eT es add drop:=⟨SC,WA⟩;have hSt:Sets es add drop O A:=⟨UO,Ta,YD,WO⟩;have hAl:A.length<=add.length:=by
  have:=jE (jF YD) (b:=add.map aF) λt ht=>by
   obtain⟨e,he,rfl⟩:=mem_map.1 ht;exact List.mem_map_of_mem ((WO e).1 he)
  simpa using this
 refine ab.f (by simp) ?_;clear h5 h4;have adW:∀{k:Nat} (dY:k<O.length),O[k]∈aK (O.take k) es:=λ{k} dY=>by
  refine dk.2 ⟨((Ta _).1 (getElem_mem dY)).1,λo ho e=>?_⟩;obtain⟨j,hj,rfl⟩:=mem_iff_getElem.1 ho;rw[getElem_take]at e;simp only[length_take]at hj;have:=List.pairwise_iff_getElem.1 UO j k (by omega) dY (by omega);have:=wq.1 this;simp only[aF]at this;omega
 have Yk:=hR.core.adq;have aej:∀{fs:List aj} {cF:dq},fG ms cF->dE fs cF->cF.length<=500000:=λhs zp=>Nat.le_trans (hs.use hR.core.use zp).len Yk;refine RN.gB h6 .nil [] (by simp) λu1 bm h7=>⟨_,rfl,λKm aiW=>?_⟩;refine(h7.new 156 [.raw (.pointer none)] aiW).st 0 rfl (by simp) λu2 h8=>?_;have h9:Ow (an n x es ms ids::cj T tk ct fr mn::RP.cy x.pr (ps.map (gl T.B))::RT.At x.el es::Pt b3 45 [pP n 0]::RT.At bo O::RT.At bi A::RN.At bm []::Pt Km 156 [pP bm 0]::L) u2:=Ow.ord [2,2,2,2,2,2,2,1,0] h8;clear h6 h7 h8;refine(RT.qc bo).call ⟨_,_,_,rfl,?_⟩;refine bk.own (RT.eG bo O (by omega)) (Ow.ord [5] h9)
  (λk u=>∃cF iG S,(dE (aK (O.take k) es) cF/\jn (aK (O.take k) es) iG/\fG ms cF/\ch RN.ck RN.key S/\S.length<=k*500000/\abK ms S (O.take k))/\Ow (an n x (aK (O.take k) es) cF iG::cj T tk ct fr mn::RP.cy x.pr (ps.map (gl T.B))::RT.At x.el (aK (O.take k) es)::Pt b3 45 [pP n 0]::RT.At bo O::RT.At bi A::RN.At bm S::Pt Km 156 [pP bm 0]::L) u)
  (λ_ _=>False) (λk=>eW.ex λ_=>eW.ex λ_=>eW.ex λ_=>eW.and (eW.own _)) (λ_ _ _ _ h=>h.elim) (λμ' h'=>⟨ms,ids,[],⟨hA,hI,fG.refl ms,Pairwise.nil,by simp,λy _ _ e he=>by simp at he⟩,?_⟩) ?_ ?_ (λ_ _ h=>h.elim)
 .have rR:Ow (RT.At bo O::an n x es ms ids::cj T tk ct fr mn::RP.cy x.pr (ps.map (gl T.B))::RT.At x.el es::Pt b3 45 [pP n 0]::RT.At bi A::RN.At bm []::Pt Km 156 [pP bm 0]::L) μ':=h';exact Ow.ord [1,1,1,1,1,0] rR
 .rintro k dY u R ⟨cF,iG,S,⟨zp,dP,hs,hS,Yz,hH⟩,rR⟩ bT _;have bZ:k<O.length:=by simpa using dY
  rw[getElem_map];refine⟨_,_,_,_,_,_,_,_,_,_,_,_,rfl,_,rR.rd 4 rfl (by simp),?_⟩;refine TN zp dP (adW bZ) (Ow.ord [0,2] rR) λKc Dm f u3 WQ xz Ao BY=>⟨_,_,rfl,?_⟩;have se:=IQ (e:=O[k]) zp;have hhl:=rP O[k] cF;have n_:=aej hs zp;have lp:Ow (RN.At bm S::Pt Km 156 [pP bm 0]::an n x (bu aw aF O[k].tag (aK (O.take k) es)) Kc Dm::RT.At x.el (bu aw aF O[k].tag (aK (O.take k) es))::cj T tk ct fr mn::RP.cy x.pr (ps.map (gl T.B))::Pt b3 45 [pP n 0]::RT.At bo O::RT.At bi A::L) u3:=Ow.ord [7,7] BY;refine IS (Pre:=[]) se (by omega) hS (by omega) lp λS' u4 Lx ai6 Lt Hv xA=>bT _ ⟨Kc,Dm,S',⟨by rw[gM bZ];exact WQ,by rw[gM bZ];exact xz,hs.trans Ao,Lx,by omega,λy hy cM e he=>?_⟩,?_⟩
  .rcases(dX bZ).1 he with he|rfl
   .exact hH y hy (λh=>cM (Lt _ h)) e he
   .cases hm:bj y.2.c O[k]with
    |false=>rfl
    |true=>exact absurd (Hv _ (Ey hs hA.nD zp.nD hy hm)) cM
  .rw[gM bZ];exact Ow.ord [2,3,3,2,2,2,2,0,0] xA
 rintro u ⟨Iu,iP,S1,⟨Td,kP,Gh,hS1,SZ,hH1⟩,rR⟩;rw[length_map]at Td kP SZ hH1 rR;rw[take_length]at Td kP hH1 rR;dsimp only[PK];clear h9;refine(RT.qc bi).call ⟨_,_,_,rfl,?_⟩;have ani:=rf O es;have Qs:cx (A.take 0) (aK O es)=aK O es:=by rw[List.take_zero];rfl
 have ai5:S1.length<=O.length*500000+0*500000:=by rw[Nat.zero_mul,Nat.add_zero];exact SZ
 refine bk.own (RT.eG bi A (by omega)) (Ow.ord [6] rR)
  (λk u=>∃cF iG S,(dE (cx (A.take k) (aK O es)) cF/\jn (cx (A.take k) (aK O es)) iG/\fG ms cF/\ch RN.ck RN.key S/\S.length<=O.length*500000+k*500000/\abK ms S O/\abK ms S (A.take k))/\Ow (an n x (cx (A.take k) (aK O es)) cF iG::cj T tk ct fr mn::RP.cy x.pr (ps.map (gl T.B))::RT.At x.el (cx (A.take k) (aK O es))::Pt b3 45 [pP n 0]::RT.At bo O::RT.At bi A::RN.At bm S::Pt Km 156 [pP bm 0]::L) u)
  (λ_ _=>False) (λk=>eW.ex λ_=>eW.ex λ_=>eW.ex λ_=>eW.and (eW.own _)) (λ_ _ _ _ h=>h.elim) (λμ' h'=>⟨Iu,iP,S1,⟨by rw[Qs];exact Td,by rw[Qs];exact kP,Gh,hS1,ai5,hH1,λy _ _ e he=>by simp at he⟩,?_⟩) ?_ ?_ (λ_ _ h=>h.elim)
 .have BY:Ow (RT.At bi A::an n x (aK O es) Iu iP::cj T tk ct fr mn::RP.cy x.pr (ps.map (gl T.B))::RT.At x.el (aK O es)::Pt b3 45 [pP n 0]::RT.At bo O::RN.At bm S1::Pt Km 156 [pP bm 0]::L) μ':=h';rw[Qs];exact Ow.ord [1,1,1,1,1,1,0] BY
 .rintro k dY u R ⟨cF,iG,S,⟨zp,dP,hs,hS,Yz,hHO,hH⟩,rR⟩ bT _;have bZ:k<A.length:=by simpa using dY
  rw[getElem_map];refine⟨_,_,_,_,_,_,_,_,_,_,_,_,rfl,_,rR.rd 4 rfl (by simp),?_⟩;have aaG:=ph (A.take k) (aK O es);rw[length_take]at aaG;refine YL zp dP (hSt.fresh hu zm bZ) (by omega) (Ow.ord [0,2] rR) λKc Dm f u3 WQ xz Ao BY=>⟨_,_,rfl,?_⟩;have se:=IQ (e:=A[k]) zp;have hhl:=rP A[k] cF;have n_:=aej hs zp;have lp:Ow (RN.At bm S::Pt Km 156 [pP bm 0]::an n x (aZ aw aF A[k] (cx (A.take k) (aK O es))) Kc Dm::RT.At x.el (aZ aw aF A[k] (cx (A.take k) (aK O es)))::cj T tk ct fr mn::RP.cy x.pr (ps.map (gl T.B))::Pt b3 45 [pP n 0]::RT.At bo O::RT.At bi A::L) u3:=Ow.ord [7,7] BY;refine IS (Pre:=[]) se (by omega) hS (by omega) lp λS' u4 Lx ai6 Lt Hv xA=>bT _ ⟨Kc,Dm,S',⟨by rw[iA bZ];exact WQ,by rw[iA bZ];exact xz,hs.trans Ao,Lx,by omega,λy hy cM e he=>hHO y hy (λh=>cM (Lt _ h)) e he,λy hy cM e he=>?_⟩,?_⟩
  .rcases(dX bZ).1 he with he|rfl
   .exact hH y hy (λh=>cM (Lt _ h)) e he
   .cases hm:bj y.2.c A[k]with
    |false=>rfl
    |true=>exact absurd (Hv _ (Ey hs hA.nD zp.nD hy hm)) cM
  .rw[iA bZ];exact Ow.ord [2,3,3,2,2,2,2,0,0] xA
 clear rR Td kP Gh hS1 SZ hH1;rintro u ⟨Iu,iP,S1,⟨Td,kP,Gh,hS1,SZ,hHO,hHA⟩,rR⟩;rw[length_map]at Td kP SZ hHA rR;rw[take_length]at Td kP hHA rR;dsimp only[PK];have iH:=hSt.new hu yi zm;generalize hfs:cx A (aK O es)=fs at*
 have BR:∀e∈fs,1<=e.tag/\e.tag<9223372036854775808:=λe he=>by
  rcases(iH.2 e).1 he with h|⟨h,_⟩
  .exact⟨(g_ e h).2,ahZ e h⟩
  .exact hR.tags e h
 have aao:∀y∈Iu,¬O_ S1 y.1->es.filter (bj y.2.c)=fs.filter (bj y.2.c):=λy hy cM=>by
  have h1:aL aw bU y.1 Iu=some y:=(bf ar Td.nD).2 ⟨hy,rfl⟩;have h2:=Gh y.1;rw[h1]at h2;cases hg:aL aw bU y.1 ms with
  |none=>rw[hg]at h2;cases h2
  |some z=>
   rw[hg]at h2;simp only[Option.map_some,Option.some.injEq,Prod.mk.injEq]at h2;obtain⟨hz,Gb⟩:=(bf ar hA.nD).1 hg;have Gb:z.1=y.1:=Gb;rw[h2.1,<- hfs];exact hSt.loc hu zm (hHO z hz (by rw[Gb];exact cM)) (hHA z hz (by rw[Gb];exact cM))
 have Sv:=RB (fs:=fs) hR;have aac:aE fs []=aE es []:=rfl;have adT:tk []=aE fs []:=hR.core.dW.tok [] hR.core.tree.root;have Wt:=hR.core.tree.root;refine⟨λe u=>∃oc nG,((e=25/\∃q∈ps,dG x.T fs q.conds)\/(e=26/\(¬ ∃q∈ps,dG x.T fs q.conds)/\x.M<((cJ fs ps:Nat):Int))\/(e=0/\(¬ ∃q∈ps,dG x.T fs q.conds)/\((cJ fs ps:Nat):Int)<=x.M/\∀q∈T.D,q≠[]->oc q=aE fs q/\nG q=gA fs q))/\Ow (an n x fs Iu iP::cj T tk ct oc nG::RP.cy x.pr (ps.map (gl T.B))::RT.At x.el fs::Pt b3 45 [pP n 0]::RT.At bo O::RT.At bi A::L) u,?_,?_⟩
 .obtain⟨F,hF⟩:=cj.rd Wt (Ow.swap rR);have hF':=hF;rw[<- hR.root]at hF';have hn2:=an.xt (n:=n) (x:=x) (es:=fs) (ms:=Iu) (ids:=iP) rR (by simp);refine⟨_,rR.rd 4 rfl (by simp),_,rR.rd 4 rfl (by simp),?_⟩;dsimp only[nP,nn,aM];refine⟨_,aH hn2 (by simp),_,rR.rd 4 rfl (by simp),?_⟩;dsimp only;refine⟨_,aH hn2 (by simp),?_⟩;dsimp only;refine⟨_,_,aH hF' (by simp),_,rR.rd 8 rfl (by simp),?_⟩;dsimp only[gK];rw[adT,hR.root];refine afn hR.core.tree Td kP ⟨by omega,by omega⟩ hR.core.dW hS1 (by omega) (λp c hp=>Cd Gh.mem c 0 (hR.core.fit p c hp)) (VR hR.core) aao 17 [] fr mn _ false Wt (by simp) (by simp[aE]) (λ_=>aac.symm) (Ow.ord [0,0,5] rR) (λhC u3 BY=>⟨_,rfl,ab.f rfl λNS Gq=>?_⟩) (λYq oc nG u3 BY=>⟨_,rfl,ab.t rfl ⟨oc,nG,.inl ⟨rfl,Sv.1 Yq⟩,?_⟩⟩)
  .have IL:¬ ∃q∈ps,dG x.T fs q.conds:=λh=>by
    obtain⟨q,c,j,hq,hj⟩:=Sv.2 h;have:=hC q c hq nil_prefix j;omega
   have Wm:∀q∈T.D,q≠[]->under (T.K []) [] q=true:=λq hq hq0=>gH.2 ((hR.core.tree.below Wt hq).1 ⟨nil_prefix,hq0⟩);generalize WG:mix (T.K []) [] (aE fs) fr=fr1 at BY;generalize Nl:mix (T.K []) [] (gA fs) mn=mn1 at BY;have SL:∀q∈T.D,q≠[]->fr1 q=aE fs q/\mn1 q=gA fs q:=λq hq hq0=>by
    rw[<- WG,<- Nl];unfold mix;rw[Wm q hq hq0];exact⟨rfl,rfl⟩
   have lp:Ow (an n x fs Iu iP::cj T tk ct fr1 mn1::RP.cy x.pr (ps.map (gl T.B))::RT.At x.el fs::Pt b3 45 [pP n 0]::RT.At bo O::RT.At bi A::RN.At bm S1::Pt Km 156 [pP bm 0]::L) u3:=Ow.ord [0,0,1,1,1,1,1,0] BY;have aec:∀q∈ps,(aE fs q.conds).length<=1024:=λq hq=>by
    obtain⟨_,_,_,_,_,g1,g2⟩:=(hR.Ee q hq).facts;obtain⟨r,d,e⟩:=oH g1;have h4:=hC r d (by rw[<- e];exact hR.pD q hq) nil_prefix 0;rw[jM,<- dv,<- e]at h4;omega
   have Yj:ps.length<=100:=by have:=hR.Kb;omega
   refine(lp.new 3 [pI 0] Gq).st 0 rfl (by simp) λu4 xA=>?_;refine⟨_,xA.rd 5 rfl (by simp),?_⟩;dsimp only;refine⟨_,aH (an.xt (x:=x) (es:=fs) (ms:=Iu) (ids:=iP) xA (by simp)) (by simp),(RP.rm x.pr).call ⟨_,_,_,rfl,?_⟩⟩;have n_:((ps.map (gl T.B)).map λy=>[RP.cY y.1,RP.gN y.2]).length=ps.length:=by simp
   refine bk.own (RP.fI x.pr (ps.map (gl T.B)) (by simp;omega)) (Ow.at 3 rfl xA)
    (λk u=>Ow (an n x fs Iu iP::cj T tk ct fr1 mn1::RP.cy x.pr (ps.map (gl T.B))::RT.At x.el fs::Pt b3 45 [pP n 0]::RT.At bo O::RT.At bi A::Pt NS 3 [pI ((((ps.take k).map λq=>(aE fs q.conds).length).sum:Nat):Int)]::RN.At bm S1::Pt Km 156 [pP bm 0]::L) u) (λ_ _=>False) (λk=>eW.own _) (λ_ _ _ _ h=>h.elim) (λμ' h'=>?_) ?_ ?_ (λ_ _ h=>h.elim)
   .have Po:Ow (RP.cy x.pr (ps.map (gl T.B))::Pt NS 3 [pI 0]::an n x fs Iu iP::cj T tk ct fr1 mn1::RT.At x.el fs::Pt b3 45 [pP n 0]::RT.At bo O::RT.At bi A::RN.At bm S1::Pt Km 156 [pP bm 0]::L) μ':=h';exact Ow.ord [2,2,0,1,1,1,1,0] Po
   .rintro k dY u2 R h2 bT _;have bZ:k<ps.length:=by simpa using dY
    have hm:=getElem_mem bZ;have d1:=hR.pD _ hm;obtain⟨_,_,_,_,_,d2,d3⟩:=(hR.Ee _ hm).facts;obtain⟨F2,Lz⟩:=cj.rd d1 (Ow.swap h2);obtain⟨w1,w2⟩:=Ae T.B d2 (by omega);rw[getElem_map,getElem_map];refine⟨_,_,_,_,_,_,_,_,rfl,_,h2.rd 7 rfl (by simp),w2,_,w1,_,rfl,?_⟩;dsimp only;refine⟨_,_,aH Lz (by simp),?_⟩;dsimp only[gK];rw[(SL _ d1 d2).1];refine h2.st 7 rfl (by simp) λu3 h3=>bT _ ?_;have hs:((ps.take (k+1)).map λq=>(aE fs q.conds).length).sum=((ps.take k).map λq=>(aE fs q.conds).length).sum+(aE fs ps[k].conds).length:=by
     rw[eZ bZ,List.sum_append];simp
    have h4:=aec _ hm;have h5:=Ft (l:=ps.take k) (f:=λq=>(aE fs q.conds).length) (b:=1024) λq hq=>aec q (List.mem_of_mem_take hq);rw[length_take]at h5;have e:du [pI ((((ps.take k).map λq=>(aE fs q.conds).length).sum:Nat):Int)] 0 [pI (wrap .i64 (((((ps.take k).map λq=>(aE fs q.conds).length).sum:Nat):Int)+((((aE fs ps[k].conds).map bY.pv).length:Nat):Int)))]=[pI ((((ps.take (k+1)).map λq=>(aE fs q.conds).length).sum:Nat):Int)]:=by
     rw[hs,length_map,aD (by omega) (by omega)];show[pI _]=_;congr 2
    rw[e]at h3;exact h3
   .intro u2 h2;rw[n_,take_length]at h2;dsimp only[PK];have Po:Ow (an n x fs Iu iP::cj T tk ct fr1 mn1::RP.cy x.pr (ps.map (gl T.B))::RT.At x.el fs::Pt b3 45 [pP n 0]::RT.At bo O::RT.At bi A::L) u2:=h2.tail λ_ h=>h.tail λ_ h=>h.tail λ_ h=>h.tail λ_ h=>h.tail λ_ h=>h.tail λ_ h=>h.tail λ_ h=>h.drop.drop.drop;refine⟨_,h2.rd 7 rfl (by simp),_,h2.rd 4 rfl (by simp),?_⟩;dsimp only;refine⟨_,aH (an.xt (x:=x) (es:=fs) (ms:=Iu) (ids:=iP) h2 (by simp)) (by simp),ab.mk (λhb=>?_) (λhb=>?_)⟩
    .have jh:x.M<((cJ fs ps:Nat):Int):=by
      have:x.M<(((ps.map λq=>(aE fs q.conds).length).sum:Nat):Int):=by simpa using hb
      exact this
     exact⟨fr1,mn1,.inr (.inl ⟨rfl,IL,jh⟩),Po⟩
    .have jh:((cJ fs ps:Nat):Int)<=x.M:=by
      have:¬x.M<(((ps.map λq=>(aE fs q.conds).length).sum:Nat):Int):=by simpa using hb
      unfold cJ;omega
     exact⟨fr1,mn1,.inr (.inr ⟨rfl,IL,jh,SL⟩),Po⟩
  .have lp:Ow (an n x fs Iu iP::cj T tk ct oc nG::RP.cy x.pr (ps.map (gl T.B))::RT.At x.el fs::Pt b3 45 [pP n 0]::RT.At bo O::RT.At bi A::RN.At bm S1::Pt Km 156 [pP bm 0]::L) u3:=Ow.ord [0,0,1,1,1,1,1,0] BY;exact lp.tail λ_ h=>h.tail λ_ h=>h.tail λ_ h=>h.tail λ_ h=>h.tail λ_ h=>h.tail λ_ h=>h.tail λ_ h=>h.drop.drop
 .clear rR;rintro e u3 ⟨oc,nG,Yv,BY⟩;refine ab.mk (λh0=>?_) (λh0=>?_)
  .have YF:e=0:=by simpa using h0
   obtain⟨_,IL,ki,SL⟩:e=0/\(¬ ∃q∈ps,dG x.T fs q.conds)/\((cJ fs ps:Nat):Int)<=x.M/\∀q∈T.D,q≠[]->oc q=aE fs q/\nG q=gA fs q:=by
    rcases Yv with⟨h,_⟩|⟨h,_⟩|h
    .omega
    .omega
    .exact h
   subst YF;refine⟨_,BY.rd 4 rfl (by simp),?_⟩;dsimp only[nP,nn,aM];refine⟨_,aH (an.xt (x:=x) (es:=fs) (ms:=Iu) (ids:=iP) BY (by simp)) (by simp),?_⟩;rw[hR.root];refine Xc hR.core.tree 17 [] tk ct oc nG Wt (by simp) (Ow.swap BY) λu4 lp=>⟨rfl,?_⟩;have Wm:∀q∈T.D,q≠[]->under (T.K []) [] q=true:=λq hq hq0=>gH.2 ((hR.core.tree.below Wt hq).1 ⟨nil_prefix,hq0⟩);have adR:under (T.K []) [] []=false:=by
    cases h:under (T.K []) [] []with
    |false=>rfl
    |true=>
     obtain⟨c,_,hp⟩:=gH.1 h;have:=hp.length_le;simp at this
   have hTk:XB T x.T fs (mix (T.K []) [] oc tk) (mix (T.K []) [] nG ct):=by
    refine⟨λp hp=>?_,λp c hp=>?_,λp c hp j=>?_⟩
    .unfold mix;by_cases e:p=[]
     .subst e;rw[adR];exact adT
     .rw[Wm p hp e];exact(SL p hp e).1
    .unfold mix;rw[Wm _ hp (by simp)];show nG (p++[c])=_;rw[(SL _ hp (by simp)).2,jL]
    .by_cases hj:((dI fs c (aE fs p) j:Nat):Int)<=x.T
     .exact hj
     .exact absurd (Sv.1 ⟨p,c,j,hp,by omega⟩) IL
   refine hk 0 fs u4 (.ok g_ yi zm fs iH IL ki) (fi.shut (fr:=mix (T.K []) [] (λ_=>[]) oc) (mn:=mix (T.K []) [] (λ_=>[]) nG) (hR.Az Td kP Gh hTk BR) ki ?_);exact(Ow.swap lp).tail λ_ h=>h.tail λ_ h=>h.tail λ_ h=>h.tail λ_ h=>h.drop.drop.drop
  .have aaD:nC x.T x.M es ps add drop e es:=by
    rcases Yv with⟨rfl,h⟩|⟨rfl,h,h'⟩|⟨rfl,_⟩
    .exact .dW g_ yi zm fs iH h
    .exact .eb g_ yi zm fs iH h h'
    .simp at h0
   have hAd:∀{k:Nat} (dY:k<A.length),A[k]∈aK (A.take k) fs:=λ{k} dY=>by
    refine dk.2 ⟨(iH.2 _).2 (.inl ((WO _).1 (getElem_mem dY))),λo ho e=>?_⟩;obtain⟨j,hj,rfl⟩:=mem_iff_getElem.1 ho;rw[getElem_take]at e;simp only[length_take]at hj;have:=List.pairwise_iff_getElem.1 YD j k (by omega) dY (by omega);have:=wq.1 this;simp only[aF]at this;omega
   refine(RT.qc bi).call ⟨_,_,_,rfl,?_⟩;refine bk.own (RT.eG bi A (by omega)) (Ow.ord [6] BY)
    (λk u=>∃cF iG,(dE (aK (A.take k) fs) cF/\jn (aK (A.take k) fs) iG/\fG ms cF)/\Ow (an n x (aK (A.take k) fs) cF iG::cj T tk ct oc nG::RP.cy x.pr (ps.map (gl T.B))::RT.At x.el (aK (A.take k) fs)::Pt b3 45 [pP n 0]::RT.At bo O::RT.At bi A::L) u)
    (λ_ _=>False) (λk=>eW.ex λ_=>eW.ex λ_=>eW.and (eW.own _)) (λ_ _ _ _ h=>h.elim) (λμ' h'=>⟨Iu,iP,⟨Td,kP,Gh⟩,?_⟩) ?_ ?_ (λ_ _ h=>h.elim)
   .have lp:Ow (RT.At bi A::an n x fs Iu iP::cj T tk ct oc nG::RP.cy x.pr (ps.map (gl T.B))::RT.At x.el fs::Pt b3 45 [pP n 0]::RT.At bo O::L) μ':=h';exact Ow.ord [1,1,1,1,1,1,0] lp
   .rintro k dY u R ⟨cF,iG,⟨zp,dP,hs⟩,lp⟩ bT _;have bZ:k<A.length:=by simpa using dY
    rw[getElem_map];refine⟨_,_,_,_,_,_,_,_,_,_,_,_,rfl,_,lp.rd 4 rfl (by simp),?_⟩;refine TN zp dP (hAd bZ) (Ow.ord [0,2] lp) λKc Dm f u3 WQ xz Ao xA=>⟨_,_,rfl,bT _ ⟨Kc,Dm,⟨by rw[gM bZ];exact WQ,by rw[gM bZ];exact xz,hs.trans Ao⟩,?_⟩⟩;rw[gM bZ];exact Ow.ord [0,1,1,0] xA
   rintro u4 ⟨Kc,Dm,⟨WQ,xz,Ao⟩,lp⟩;rw[length_map]at WQ xz lp;rw[take_length]at WQ xz lp;dsimp only[PK];refine(RT.qc bo).call ⟨_,_,_,rfl,?_⟩;have anh:=rf A fs;have lj:fs.length<=es.length+A.length:=by
    rw[<- hfs];have:=ph A (aK O es);omega
   have Qs:cx (O.take 0) (aK A fs)=aK A fs:=by rw[List.take_zero];rfl
   refine bk.own (RT.eG bo O (by omega)) (Ow.ord [5] lp)
    (λk u=>∃cF iG,(dE (cx (O.take k) (aK A fs)) cF/\jn (cx (O.take k) (aK A fs)) iG/\fG ms cF)/\Ow (an n x (cx (O.take k) (aK A fs)) cF iG::cj T tk ct oc nG::RP.cy x.pr (ps.map (gl T.B))::RT.At x.el (cx (O.take k) (aK A fs))::Pt b3 45 [pP n 0]::RT.At bo O::RT.At bi A::L) u)
    (λ_ _=>False) (λk=>eW.ex λ_=>eW.ex λ_=>eW.and (eW.own _)) (λ_ _ _ _ h=>h.elim) (λμ' h'=>⟨Kc,Dm,⟨by rw[Qs];exact WQ,by rw[Qs];exact xz,Ao⟩,?_⟩) ?_ ?_ (λ_ _ h=>h.elim)
   .rw[Qs];have xA:Ow (RT.At bo O::an n x (aK A fs) Kc Dm::cj T tk ct oc nG::RP.cy x.pr (ps.map (gl T.B))::RT.At x.el (aK A fs)::Pt b3 45 [pP n 0]::RT.At bi A::L) μ':=h';exact Ow.ord [1,1,1,1,1,0] xA
   .rintro k dY u R ⟨cF,iG,⟨zp,dP,hs⟩,xA⟩ bT _;have bZ:k<O.length:=by simpa using dY
    rw[getElem_map];refine⟨_,_,_,_,_,_,_,_,_,_,_,_,rfl,_,xA.rd 4 rfl (by simp),?_⟩;have aaG:=ph (O.take k) (aK A fs);rw[length_take]at aaG;have aeD:=hSt.aaR hu zm bZ;rw[hfs]at aeD;refine YL zp dP aeD (by omega) (Ow.ord [0,2] xA) λXS adI f u3 hA3 Tc hs3 Po=>⟨_,_,rfl,bT _ ⟨XS,adI,⟨by rw[iA bZ];exact hA3,by rw[iA bZ];exact Tc,hs.trans hs3⟩,?_⟩⟩;rw[iA bZ];exact Ow.ord [0,1,1,0] Po
   rintro u5 ⟨XS,adI,⟨hA3,Tc,hs3⟩,xA⟩;rw[length_map]at hA3 Tc xA;rw[take_length]at hA3 Tc xA;have zk:=hSt.back hu zm;rw[hfs]at zk;rw[zk]at hA3 Tc xA;dsimp only[PK];refine hk e es u5 aaD (fi.shut (fr:=oc) (mn:=nG) (hR.Az hA3 Tc hs3 hR.core.dW hR.tags) mF ?_);exact xA.tail λ_ h=>h.tail λ_ h=>h.tail λ_ h=>h.tail λ_ h=>h.drop.drop.drop
end
open K6
def aa.acR{P:Program}{g:FuncId}{G:List PV}{I:Mem}{K:Kq}{b:Nat}{T:TypeId}{cs:List PV}{i sz:Nat}(hb:I b=some (.cells T cs))(hi:cs[i]?=some (.list sz .sh []))(h:∀a c,(c=0\/gq a)->aa P g G (I.set b (some (.cells T (cs.set i (.raw (.slice a 0 c)))))) K):aa P g G I K:=λZ u vs hg hw ha=>by
 obtain⟨h1,hz,A,hA,hl,Y⟩:=hg.mem b _ hb;have bK:i<A.toList.length:=by rw[hl];exact(List.getElem?_eq_some_iff.1 hi).1
 have J:=List.getElem?_eq_getElem bK;have H:=Y i _ _ hi J;obtain⟨a,c,ev,U⟩:∃a c,A.toList[i]=.slice a 0 c/\(c=0\/gq a):=by
  generalize A.toList[i]=v at H;cases H with
  |list _ _ _ a n c b o C g hn hc U Y ha hgg hk hp hf=>
   subst hn;exact⟨a,c,rfl,U⟩
 have hd:∀x,(I.set b (some (.cells T (cs.set i (.raw (.slice a 0 c)))))) x=none↔I x=none:=λx=>by
  by_cases e:x=b
  .subst e;rw[Mem.ao,hb];simp
  .rw[Mem.ax _ _ e]
 obtain⟨hc,dc⟩:=h a c U Z u vs ⟨hg.Da,λx o L=>by
  by_cases e:x=b
  .subst e
   rw[Mem.ao]at L
   cases L
   refine⟨h1,hz,A,hA,by rw[List.length_set];exact hl,λj p v hp H=>?_⟩
   rw[List.getElem?_set]at hp
   split at hp
   .rename_i e2
    subst e2
    rw[J]at H
    cases H
    split at hp
    .cases hp;rw[ev];exact .raw _ rfl rfl
    .cases hp
   .exact Y j p v hp H
  .rw[Mem.ax _ _ e]at L;exact hg.mem x o L⟩ hw ha
 refine⟨hc,dc.Bz λv lo w' _ _ hp=>?_⟩;obtain⟨Z',O,p,e,g',yd,hK⟩:=hp;refine⟨Z',O,p,⟨e.le,λx C hC hn=>e.zs x C hC ((hd x).2 hn),λx Q=>(e.zn x Q).imp id (Or.imp (λh h'=>h ((hd x).2 h')) id),λx Q=>(e.mn x Q).imp (λh h'=>h ((hd x).2 h')) id,e.lt⟩,g',yd,hK⟩
def Jq{T:TypeId}{add:List aj}{a:Option Addr}{n c:Nat}{g:Mem}(C:Ow [ca T 12 (.raw (.slice a n c)) (add.map aj.pv)] g):∀(k:Nat) (h:k<add.length),∃b,a=some ⟨b,0,none⟩/\ay g b (0+k*12) 12=some add[k].pv:=λk A=>by
 obtain⟨b,e,G,_⟩:=ca.at_ 0 C rfl (λr i=>by obtain⟨x,_,rfl⟩:=mem_map.1 i;rfl) (j:=k) (by simpa using A);have:=G 0 12 (by omega);rw[getElem_map]at this;exact⟨b,e,this⟩
@[reducible] def Cj(v:ByteArray)(s:Sym):List PV:=[pI 1,pS v,pI s.k,pS s.t,pI s.n,.list 3 .sh []]
def lEq{L:List aO}{g:Mem}(j:Ow L g)(v:ByteArray)(s:Sym){K:Kq}(h:∀b e,Ow (Pt b dN (Cj v s)::L) e->K (.raw (.slice (some ⟨b,0,none⟩) 1 1)) e):aa prog 28 [pS v,.agg s.pv] g K:=
 uS.c λb i=>h b _ (j.new _ _ i)
def Ny{v:ByteArray}{s:Sym}{e:Mem}{b:Nat}(h:e b=some (.cells dN (Cj v s))):dL e (.raw (.slice (some ⟨b,0,none⟩) (ub v s).length 1)) (.list 6 .sh ((ub v s).map Test.pv)):=
 .XW b 0 1 6 ((ub v s).map Test.pv) (Cj v s) (by simp[ub]) (λr g=>by simp[ub]at g;subst g;rfl) rfl (aH h (by simp[ub])) λi c d hc j=>by
  match i with
  |0|1|2|3|4|5=>simp[ub,Test.pv]at hc j;subst hc j;exact .same _
  |i+6=>simp at hc
def YZ:ae:=.mk 1 true ⟨#[115]⟩ (ub ⟨#[]⟩ (wS ⟨#[120]⟩)) (ub ⟨#[118]⟩ ⟨0,⟨#[]⟩,0⟩) false []
def YY:ae:=.mk 2 false ⟨#[115]⟩ (ub ⟨#[]⟩ (wS ⟨#[121]⟩)) (ub ⟨#[118]⟩ ⟨0,⟨#[]⟩,0⟩) false []
def Sc:Pure prog 7 [] (pB true):=by
 refine av.of (qk.c ?_);refine NH 10 10 (L:=[]) trivial (λh=>absurd (by omega) h) λ_ n x u hT hM h1=>⟨_,_,rfl,ab.f rfl (ab.f rfl ?_)⟩;refine(PD _).call ⟨_,_,_,rfl,lEq h1 _ (wS _) λG u2 h2=>⟨_,_,_,rfl,lEq h2 _ ⟨0,⟨#[]⟩,0⟩ λC u3 h3=>⟨_,_,_,rfl,(PD _).call ⟨_,_,_,rfl,lEq h3 _ (wS _) λU u5 h5=>⟨_,_,_,rfl,lEq h5 _ ⟨0,⟨#[]⟩,0⟩ λJ u6 h6=>⟨_,_,_,rfl,λNS Gq=>(PD _).call ⟨_,_,_,rfl,λH aiT=>(ajB _ _).call ⟨_,_,_,rfl,?_⟩⟩⟩⟩⟩⟩⟩⟩;refine(PD _).q ⟨_,_,_,rfl,?_⟩;refine(aa_ _).q ⟨_,_,_,rfl,?_⟩;refine(PD _).q ⟨_,_,_,rfl,?_⟩;refine(aa_ _).q ⟨_,_,_,rfl,?_⟩;refine(PD _).q ⟨_,_,_,rfl,?_⟩;refine(aa_ _).q ⟨_,_,_,rfl,?_⟩;simp only[Mem.pK];intro A aiS;have h9:=Ow.at 2 rfl (((h6.new _ _ Gq).new _ _ aiT).new 88 (DM.map aj.pv).flatten aiS);refine aa.acR (i:=6) (h9.get 0 rfl) rfl λQ O g3=>?_;refine aa.acR (i:=13) ((Ow.put (T':=84) (GF:=[pI 1,pB true,pS ⟨#[115]⟩,.raw (.slice (some ⟨G,0,none⟩) 1 1),.raw (.slice (some ⟨C,0,none⟩) 1 1),pB false,.list 7 .sh [],pI 2,pB false,pS ⟨#[115]⟩,.raw (.slice (some ⟨U,0,none⟩) 1 1),.raw (.slice (some ⟨J,0,none⟩) 1 1),pB false,.list 7 .sh []].set 6 (.raw (.slice Q 0 O))) h9).get 0 rfl) rfl λa4 c4 g4=>?_;have BY:=Ow.put (T':=84) (GF:=([pI 1,pB true,pS ⟨#[115]⟩,.raw (.slice (some ⟨G,0,none⟩) 1 1),.raw (.slice (some ⟨C,0,none⟩) 1 1),pB false,.list 7 .sh [],pI 2,pB false,pS ⟨#[115]⟩,.raw (.slice (some ⟨U,0,none⟩) 1 1),.raw (.slice (some ⟨J,0,none⟩) 1 1),pB false,.list 7 .sh []].set 6 (.raw (.slice Q 0 O))).set 13 (.raw (.slice a4 0 c4))) (Ow.put (T':=84) (GF:=[pI 1,pB true,pS ⟨#[115]⟩,.raw (.slice (some ⟨G,0,none⟩) 1 1),.raw (.slice (some ⟨C,0,none⟩) 1 1),pB false,.list 7 .sh [],pI 2,pB false,pS ⟨#[115]⟩,.raw (.slice (some ⟨U,0,none⟩) 1 1),.raw (.slice (some ⟨J,0,none⟩) 1 1),pB false,.list 7 .sh []].set 6 (.raw (.slice Q 0 O))) h9);have lp:Ow (Ow [Pt NS 84 (cP YZ (some ⟨G,0,none⟩,1) (some ⟨C,0,none⟩,1) (Q,O)++cP YY (some ⟨U,0,none⟩,1) (some ⟨J,0,none⟩,1) (a4,c4)),Pt H 43 ((DL.bd.map cI.pv).flatten),Pt J dN (Cj ⟨#[118]⟩ ⟨0,⟨#[]⟩,0⟩),Pt U dN (Cj ⟨#[]⟩ (wS ⟨#[121]⟩)),Pt C dN (Cj ⟨#[118]⟩ ⟨0,⟨#[]⟩,0⟩),Pt G dN (Cj ⟨#[]⟩ (wS ⟨#[120]⟩))]::Pt A 88 (DM.map aj.pv).flatten::fi n x [] [] 0::[]) _:=Ow.pack (L1:=[_,_,_,_,_,_]) (Ow.ord [0,1,1,1,1,1,0] BY);obtain⟨g,I,xA⟩:=lp.fix;have aeM:=I.get 0 rfl;have B1:pn g YZ (some ⟨G,0,none⟩,1) (some ⟨C,0,none⟩,1) (Q,O):=⟨Ny (I.get 5 rfl),Ny (I.get 4 rfl),.Dk Q O 7 g3⟩;have B2:pn g YY (some ⟨U,0,none⟩,1) (some ⟨J,0,none⟩,1) (a4,c4):=⟨Ny (I.get 3 rfl),Ny (I.get 2 rfl),.Dk a4 c4 7 g4⟩;have hP:oq g (1+1) DL (some ⟨NS,0,none⟩,2) (some ⟨H,0,none⟩,1):=by
  refine⟨.XW NS 0 2 7 ([YZ,YY].map ae.pv) _ (by simp) (λr hr=>by simp at hr;rcases hr with rfl|rfl<;>rfl) rfl (I.rd 0 rfl (by simp)) λi c d hc hd=>?_,.XW H 0 1 19 (DL.bd.map cI.pv) _ (by simp[DL]) (CA _) rfl (I.rd 1 rfl (by simp[DL])) λi c d hc hd=>?_,λi hi=>?_⟩
  .exact(B1.abu.append B2.abu).2 i c d hc hd
  .have e:c=d:=by
    rw[<- take_length (l:=(DL.bd.map cI.pv).flatten)]at hd;exact Option.some.inj (hc.symm.trans hd)
   subst e;exact .same _
  .have hi:i<2:=hi
   match i,hi with
   |0,_=>exact⟨NS,_,_,_,rfl,aH aeM (by simp),B1,λj hj=>absurd hj (by show ¬j<0;omega)⟩
   |1,_=>exact⟨NS,_,_,_,rfl,aH aeM (by simp),B2,λj hj=>absurd hj (by show ¬j<0;omega)⟩
 refine X_ (by omega) DL wkL (by decide) (by decide) hP (L:=[Is g,Pt A 88 (DM.map aj.pv).flatten]) (λρ h=>h.inc (by simp)) (Ow.ord [2] xA) λe Ec u7 aaH Po=>⟨_,rfl,?_⟩;obtain⟨rfl,rfl⟩:=acN hT hM aaH;have ajq:Ow (Pt A 88 (DM.map aj.pv).flatten::fi n x [] [DL] 1::Is g::[]) u7:=Ow.ord [2,0] Po;have h15:Ow (ca 88 12 (.raw (.slice (some ⟨A,0,none⟩) 3 3)) (DM.map aj.pv)::fi n x [] [DL] 1::Is g::[]) u7:=ajq.imp λν hν=>⟨[A],.inr ⟨A,3,[],rfl,rfl,by rw[List.append_nil];exact hν,rfl,Nat.le_refl _⟩⟩;obtain⟨ν1,Y,h16⟩:=h15.fix;refine IA (by omega) .nil DM [] (by decide) (by decide) (by decide) (λe he=>?_) (Jq (Ow.one Y)) (L:=[Is ν1,Is g]) (λρ h=>h.inc (by simp)) (Ow.swap h16) λe oC u3 aiN h3=>⟨_,rfl,?_⟩
 .simp only[DM,List.mem_cons,List.not_mem_nil,or_false]at he;rcases he with rfl|rfl|rfl<;>decide
 obtain⟨rfl,rfl⟩:=acM hT hM aiN;refine(YO n).call ⟨_,_,_,rfl,TR (l:=allM DM [DL]) (MJ (by omega)) (by rw[wk6];decide) h3 λf u4 h4=>⟨_,_,rfl,ab.t rfl (ab.t rfl ?_)⟩⟩;rw[wk6];exact ab.t rfl ⟨by omega,_,rfl,_,_,rfl,ab.t rfl ⟨by omega,_,rfl,_,_,rfl,by omega,_,rfl,_,rfl,rfl⟩⟩
def VE:ownKnob prog.godebug=none:=by kernel_rfl
def Bm:laidOutB prog=true:=by kernel_rfl
section
variable {w:World}
def vl:prog.cellsOf 3=1:=by kernel_rfl
def Fp:prog.cellsOf 4=1:=by kernel_rfl
def nO:prog.cellsOf 9=1:=by kernel_rfl
def AI:prog.cellsOf 37=3:=by kernel_rfl
def Zf:prog.cellsOf 100=1:=by kernel_rfl
def QI:prog.cellsOf 102=6:=by kernel_rfl
def MC:prog.cellsOf 80=1:=by kernel_rfl
def KA:prog.cellsOf 84=7:=by kernel_rfl
def ME:prog.cellsOf 22=1:=by kernel_rfl
def D_(n:Nat)(cs:List Value)(h:Reads prog w n 37 cs):∃s:Sym,bx (jN w) s.pv cs/\True:=by
 obtain⟨m,rfl,g,e⟩:=h.struct underlying37;rw[AI]at g;obtain⟨L,A,_⟩:=(fW e 0 0 vl rfl rfl rfl).FM underlying3;obtain⟨J,j,_⟩:=(fW e 1 1 nO rfl rfl rfl).OF underlying9;obtain⟨I,i,_⟩:=(fW e 2 2 vl rfl rfl rfl).FM underlying3
 match cs,g with
 |[H,G,C],_=>exact⟨⟨_,_,_⟩,(A.append j).append i,trivial⟩
def Zp(n:Nat)(cs:List Value)(h:Reads prog w n 100 cs):∃l:List Sym,bx (jN w) [.list 3 .sh (l.map Sym.pv)] cs/\(∀s∈l,True)/\l.length<=maxLen:=
 h.ze underlying100 AI (by omega) λm cs _ e=>D_ m cs e
def Zn(n:Nat)(cs:List Value)(h:Reads prog w n 102 cs):∃t:Test,bx (jN w) t.pv cs/\True:=by
 obtain⟨m,rfl,g,e⟩:=h.struct underlying102;rw[QI]at g;obtain⟨U,C,_⟩:=(fW e 0 0 vl rfl rfl rfl).FM underlying3;obtain⟨Q,A,_⟩:=(fW e 1 1 nO rfl rfl rfl).OF underlying9;obtain⟨s,j,_⟩:=D_ _ _ (fW e 2 2 AI rfl rfl rfl);obtain⟨l,i,_⟩:=Zp _ _ (fW e 3 5 Zf rfl rfl rfl)
 match cs,g with
 |[O,L,J,I,H,G],_=>exact⟨⟨_,_,s,l⟩,((C.append A).append j).append i,trivial⟩
def MP(n:Nat)(cs:List Value)(h:Reads prog w n 80 cs):∃l:List Test,bx (jN w) [.list 6 .sh (l.map Test.pv)] cs/\(∀s∈l,True)/\l.length<=maxLen:=
 h.ze underlying80 QI (by omega) λm cs _ e=>Zn m cs e
def Zu:∀(n:Nat) (cs:List Value),Reads prog w n 84 cs->∃c:ae,bx (jN w) c.pv cs/\True:=by
 intro n;induction n using Nat.strongRecOn with
 |ind n j=>
  intro cs h;obtain⟨m,rfl,g,e⟩:=h.struct underlying84;rw[KA]at g;obtain⟨H,e0,_⟩:=(fW e 0 0 vl rfl rfl rfl).FM underlying3;obtain⟨G,e1⟩:=(fW e 1 1 Fp rfl rfl rfl).pbool underlying4;obtain⟨C,Y,_⟩:=(fW e 2 2 nO rfl rfl rfl).OF underlying9;obtain⟨a3,U,_⟩:=MP _ _ (fW e 3 3 MC rfl rfl rfl);obtain⟨a4,O,_⟩:=MP _ _ (fW e 4 4 MC rfl rfl rfl);obtain⟨A,L⟩:=(fW e 5 5 Fp rfl rfl rfl).pbool underlying4;obtain⟨l,J,_⟩:=(fW e 6 6 ME rfl rfl rfl).ze (pv:=ae.pv) (Q:=λ_=>True) underlying22 KA (by omega) λi GF hm I=>j i (by omega) GF I
  match cs,g with
  |[x0,x1,x2,x3,x4,x5,x6],_=>
   refine⟨.mk H G C a3 a4 A l,?_,trivial⟩;rw[ae.de];exact(((((e0.append e1).append Y).append U).append O).append L).append J
def VA(n:Nat)(cs:List Value)(h:Reads prog w n 22 cs):∃l:List ae,bx (jN w) [.list 7 .sh (l.map ae.pv)] cs/\(∀s∈l,True)/\l.length<=maxLen:=
 h.ze underlying22 KA (by omega) λm cs _ e=>Zu m cs e
end
section
variable {w:World}
def AJ:prog.cellsOf 39=4:=by kernel_rfl
def QJ:prog.cellsOf 41=9:=by kernel_rfl
def QO:prog.cellsOf 43=19:=by kernel_rfl
def Vj:prog.cellsOf 23=1:=by kernel_rfl
def QK:prog.cellsOf 25=3:=by kernel_rfl
def FG(n:Nat)(cs:List Value)(h:Reads prog w n 39 cs):∃s:Atom,bx (jN w) s.pv cs/\True:=by
 obtain⟨m,rfl,e,g⟩:=h.struct underlying39;rw[AJ]at e;obtain⟨I,j,_⟩:=(fW g 0 0 nO rfl rfl rfl).OF underlying9;obtain⟨s,i,_⟩:=D_ _ _ (fW g 1 1 AI rfl rfl rfl)
 match cs,e with
 |[H,G,C,A],_=>exact⟨⟨_,s⟩,j.append i,trivial⟩
def Zo(n:Nat)(cs:List Value)(h:Reads prog w n 41 cs):∃s:Term,bx (jN w) s.pv cs/\True:=by
 obtain⟨m,rfl,g,e⟩:=h.struct underlying41;rw[QJ]at g;obtain⟨Y,A,_⟩:=(fW e 0 0 vl rfl rfl rfl).FM underlying3;obtain⟨a,j,_⟩:=FG _ _ (fW e 1 1 AJ rfl rfl rfl);obtain⟨b,i,_⟩:=FG _ _ (fW e 2 5 AJ rfl rfl rfl)
 match cs,g with
 |[U,Q,O,L,J,I,H,G,C],_=>exact⟨⟨_,a,b⟩,(A.append j).append i,trivial⟩
def Zv(n:Nat)(cs:List Value)(h:Reads prog w n 43 cs):∃s:cI,bx (jN w) s.pv cs/\True:=by
 obtain⟨m,rfl,g,e⟩:=h.struct underlying43;rw[QO]at g;obtain⟨i0,e0,_⟩:=(fW e 0 0 nO rfl rfl rfl).OF underlying9;obtain⟨a,Y,_⟩:=FG _ _ (fW e 1 1 AJ rfl rfl rfl);obtain⟨t,U,_⟩:=Zo _ _ (fW e 2 5 QJ rfl rfl rfl);obtain⟨i3,Q,_⟩:=(fW e 3 14 vl rfl rfl rfl).FM underlying3;obtain⟨o,O,_⟩:=FG _ _ (fW e 4 15 AJ rfl rfl rfl)
 match cs,g with
 |[x0,x1,x2,x3,x4,x5,x6,x7,x8,x9,L,J,I,H,G,C,A,j,i],_=>exact⟨⟨_,a,t,_,o⟩,(((e0.append Y).append U).append Q).append O,trivial⟩
theorem Zq(n:Nat)(cs:List Value)(h:Reads prog w n 25 cs):∃p:aP.Prod,bx (jN w) p.pv cs/\True:=by
 obtain⟨m,rfl,hl,hf⟩:=h.struct underlying25;rw[QK]at hl;obtain⟨i0,e0,_⟩:=(fW hf 0 0 nO rfl rfl rfl).OF underlying9;obtain⟨c,e1,_⟩:=VA _ _ (fW hf 1 1 ME rfl rfl rfl);obtain⟨a,e2,_⟩:=(fW hf 2 2 Vj rfl rfl rfl).ze (pv:=cI.pv) (Q:=λ_=>True) underlying23 QO (by omega) λm' GF hm hr=>Zv m' GF hr
 match cs,hl with
 |[x0,x1,x2],_=>exact⟨⟨_,c,a⟩,(e0.append e1).append e2,trivial⟩
end
section
variable {w:World}
def QM:prog.cellsOf 88=12:=by kernel_rfl
end
structure xp where
 d:Int
 p:aP.Prod
 l:List aj
 o:List Int
@[reducible] def xp.pv(a:xp):List PV:=[pI a.d,pS a.p.name,.list 7 .sh (a.p.conds.map ae.pv),.list 19 .sh (a.p.bd.map cI.pv),.list 12 .sh (a.l.map aj.pv),.list 1 .sh (a.o.map fO)]
section
variable {w:World}
def MF:prog.cellsOf 69=6:=by kernel_rfl
def QL:prog.cellsOf 26=1:=by kernel_rfl
def Vi:prog.cellsOf 51=1:=by kernel_rfl
def Vz(n:Nat)(cs:List Value)(h:Reads prog w n 88 cs):∃s:aj,bx (jN w) s.pv cs/\(Lit.int .i64 s.tag).wf=true:=by
 obtain⟨m,rfl,g,e⟩:=h.struct underlying88;rw[QM]at g;obtain⟨a,L,_⟩:=D_ _ _ (fW e 0 0 AI rfl rfl rfl);obtain⟨b,J,_⟩:=D_ _ _ (fW e 1 3 AI rfl rfl rfl);obtain⟨c,I,_⟩:=D_ _ _ (fW e 2 6 AI rfl rfl rfl);obtain⟨i3,H⟩:=(fW e 3 9 Fp rfl rfl rfl).pbool underlying4;obtain⟨i4,G⟩:=(fW e 4 10 Fp rfl rfl rfl).pbool underlying4;obtain⟨i5,C,A⟩:=(fW e 5 11 vl rfl rfl rfl).FM underlying3
 match cs,g with
 |[x0,x1,x2,x3,x4,x5,Y,U,Q,O,j,i],_=>exact⟨⟨a,b,c,_,_,_⟩,((((L.append J).append I).append H).append G).append C,A⟩
theorem VB(n:Nat)(cs:List Value)(h:Reads prog w n 69 cs):∃s:xp,bx (jN w) s.pv cs/\(∀e∈s.l,(Lit.int .i64 e.tag).wf=true):=by
 obtain⟨m,rfl,hl,hf⟩:=h.struct underlying69;rw[MF]at hl;obtain⟨i0,e0,_⟩:=(fW hf 0 0 vl rfl rfl rfl).FM underlying3;obtain⟨p,e1,_⟩:=Zq _ _ (fW hf 1 1 QK rfl rfl rfl);obtain⟨l,e2,q2,_⟩:=(fW hf 2 4 QL rfl rfl rfl).ze (pv:=aj.pv) (Q:=λe=>(Lit.int .i64 e.tag).wf=true) underlying26 QM (by omega) λm' GF _ hr=>Vz m' GF hr;obtain⟨o,e3,_⟩:=(fW hf 3 5 Vi rfl rfl rfl).ze (pv:=fO) (Q:=λ_=>True) underlying51 vl (by omega) λm' GF _ hr=>(hr.FM underlying3).imp λ_ h=>⟨h.1,trivial⟩
 match cs,hl with
 |[x0,x1,x2,x3,x4,x5],_=>exact⟨⟨i0,p,l,o⟩,((e0.append e1).append e2).append e3,q2⟩
end
def RW(u:Mem){K:Kq}(h:K (pB true) u):aa prog 7 [] u K:=Sc.call h
structure Hb(a:xp):Prop where
 p:Lf a.p
 l:a.l.length<=8
 o:a.o.length<=20
def TW(f:Fl)(l:List xp):av prog 17 [.list 6 f (l.map xp.pv),pI 14] λp=>∃q:Bool,p=pB q/\(q=false->l.length<=14/\∀a∈l,Hb a):=by
 refine av.of (sC.c (ab.mk (λ_=>⟨true,rfl,λh=>by cases h⟩) (λi=>?_)));have i:l.length<=14:=by have:=of_decide_eq_false i;simp at this;omega
 refine ak.each (n:=l.length) (by omega) (λk u=>∀a∈l.take k,Hb a) (by simp) ?_ ?_
 .intro k u next e g H
  refine ab.t (by simpa using e) ⟨by omega,_,aA e,_,_,_,_,_,rfl,av.call (abg .sh .sh l[k].p) ?_⟩;rintro _ ⟨q,rfl,j⟩;refine⟨_,rfl,ab.mk (λ_=>⟨true,rfl,λh=>by cases h⟩) (λA=>⟨by omega,_,aA e,_,_,rfl,?_⟩)⟩;have L:=(j A).2.1;refine av.call (TU (ah l[k].p.conds) .sh l[k].p.conds 20 0 (Nat.le_refl _) (by omega) (by omega)) ?_;rintro _ ⟨r,rfl,_⟩;refine⟨_,rfl,ab.mk (λ_=>⟨true,rfl,λh=>by cases h⟩) (λ_=>⟨by omega,_,aA e,_,_,rfl,av.call (Xi .sh l[k].l 8 (by omega)) ?_⟩)⟩;rintro _ ⟨J,rfl,I⟩;refine⟨_,rfl,ab.mk (λ_=>⟨true,rfl,λh=>by cases h⟩) (λG=>⟨by omega,_,aA e,_,_,rfl,ab.mk (λ_=>⟨true,rfl,λh=>by cases h⟩) (λC=>H _ λa ha=>?_)⟩)⟩;rcases(dX e).1 ha with ha|rfl
  .exact g a ha
  .exact⟨j A,I (nt G),by have:=of_decide_eq_false C;simp at this;omega⟩
 .intro u next g
  rw[take_length]at g;exact ab.f (by simp) ⟨false,rfl,λ_=>⟨i,g⟩⟩
section
variable {n r:Nat} {x:NC} {es:List aj} {ps:List Prod} {w:Nat} {y:oo}
def fi.wide{L:List aO}{e:Mem}(h:Ow (fi n x es ps w::L) e){w':Nat}(i:w<=w'):Ow (fi n x es ps w'::L) e:=by
 obtain⟨T,C,ids,tk,G,fr,mn,⟨j,g⟩,A⟩:=fi.open_ h;exact fi.shut (j.mono i λ_ h=>h) g A
def abk(f0:Fl)(o:List Int)(ho:o.length<=1000)(Np:y.es.length<=100000){L:List aO}{Q:Mem}(hO:Ow (bA r y::L) Q){K:Kq}(hk:∀f (d:List Int) C,d.length=o.length->Ow (bA r y::L) C->K (.list 1 f (d.map fO)) C):
  aa prog 56 [pP r 0,.list 1 f0 (o.map fO)] Q K:=by
 obtain⟨f,U⟩:=bA.open_ hO;refine sD.c ?_;refine ak.cX (n:=o.length) (by omega) (λk s u=>∃d:List Int,s.2=d.map fO/\d.length=k/\Ow (eX s.1 d.length 1::Pt r 53 (y.pv f)::L) u) ⟨[],rfl,rfl,U.nil (.inl rfl)⟩ ?_ ?_
 .rintro k ⟨g,_⟩ u next H ⟨d,rfl,I,A⟩ au
  dsimp only at A |-;have add:∀(t:Int) {G:Fl->Mem->Prop},(∀i e,Ow (eX i (d++[t]).length 1::Pt r 53 (y.pv f)::L) e->G i e)->aR false 1 8 g (d.map fO) [[pI t]] u G:=λt {G} hG=>by
   refine A.app (by simp) (by simp;omega) (by simp;omega) λi e j=>hG i e ?_;rw[List.length_append];exact j
  have fin:∀(t:Int) {i e},Ow (eX i (d++[t]).length 1::Pt r 53 (y.pv f)::L) e->next ((i,d.map fO++[[pI t]]),wrap .i64 ((k:Int)+1)) e:=λt {i e} j=>au _ _ ⟨d++[t],by rw[List.map_append];rfl,by simp[I],j⟩
  refine ab.t (by simpa using H) ⟨λb e=>(b=true->0<=o[k]/\o[k]<((y.es.length:Nat):Int))/\e=u,?_,?_⟩
  .refine⟨by omega,_,aA H,_,rfl,ab.mk (λO=>⟨by omega,_,aA H,_,rfl,?_⟩) (λ_=>⟨(λh=>by cases h),rfl⟩)⟩;refine⟨_,_,A.rd 1 rfl (by simp),λJ=>⟨of_decide_eq_true O,?_⟩,rfl⟩;have:=of_decide_eq_true J;rw[length_map]at this;exact this
  .rintro b _ ⟨J,rfl⟩;refine ab.mk (λY=>?_) (λ_=>⟨by omega,_,aA H,_,rfl,add _ λi e j=>fin _ j⟩);obtain⟨O,h1⟩:=J Y;have hj:(o[k]).toNat<y.es.length:=by omega
   exact⟨_,_,A.rd 1 rfl (by simp),by omega,_,aA H,_,rfl,O,_,by rw[List.getElem?_map,List.getElem?_eq_getElem hj];rfl,_,rfl,add _ λi e j=>fin _ j⟩
 .rintro⟨g,_⟩ u next ⟨d,rfl,I,A⟩
  exact ab.f (by simp) (hk _ d u I (bA.shut (f:=f) A.drop))
def Uk(e:Int):((e:Int) == e)=true:=by simp
def Xb(a:xp)(ha:Hb a)(hwf:∀e∈a.l,(Lit.int .i64 e.tag).wf=true)(hw:w<30)(g:Ad x es ps y)(Np:es.length<=1000){L:List aO}{μ:Mem}(H:Ow (fi n x es ps w::bA r y::L) μ){K:Kq}
  (hk:∀oC Ec C μ',Ad x oC Ec C->oC.length<=es.length+8->Ow (fi n x oC Ec (w+1)::bA r C::L) μ'->K (pB true) μ'):
  aa prog 18 [pP n 0,pP r 0,.agg a.pv] μ K:=by
 obtain⟨O,hs,hac,_⟩:=ha.p;have hal:=ha.l;have hol:=ha.o;have aep:XX a.p:=⟨O,by omega,by omega⟩;obtain⟨_,_,hu,_,_,nH⟩:=fi.facts H;have Qk:y.es.length<=1000:=by rw[<- g.es.length_eq];exact Np
 refine uQ.c ((Tz a.d 9 (by omega) (by omega)).call ⟨_,rfl,⟨λ_ u=>u=μ,ab.mk (λ_=>rfl) (λ_=>ab.mk (λ_=>rfl) λ_=>rfl),?_⟩⟩);rintro s u rfl;refine ab.mk (λ_=>?_) (λ_=>ab.mk (λ_=>?_) (λ_=>?_))
 .
  refine LR H .sh .sh a.p 100 (by omega) (by omega) O (by omega) λa1 c1 a2 c2 J I=>⟨_,_,_,_,_,_,_,rfl,?_⟩;obtain⟨ν0,Ke,h3⟩:=(Ow.pack (L1:=[_,_]) I).fix;have hP:oq ν0 (99+1) a.p (a1,c1) (a2,c2):=oq.own Ke;refine X_ (by omega) a.p O (by omega) (by omega) hP (L:=Is ν0::bA r y::L) (λρ h=>h.inc (by simp)) (Ow.swap h3) λe ps2 G aaH h4=>⟨_,rfl,?_⟩;refine(LS .sh .sh a.p aep).call ⟨_,_,_,_,_,rfl,?_⟩;refine abr g.ok (by rw[g.ps];omega) .sh .sh a.p O (by omega) (by omega) (Ow.ord [2] h4) λe' ps3 C u3 aeX aaj U Q aiH aah h5=>⟨_,rfl,?_⟩;have aeW:vb x.T x.M es ps a.p e' ps3:=by
   have:=aeX.perm g.es;rw[g.B,g.M,g.ps]at this;exact this
  obtain⟨rfl,rfl⟩:=aaH.uniq aeW;have h5:Ow (bA r C::fi n x es ps2 (w+1)::Is ν0::L) u3:=h5;have hi:=h5.inc (ν0:=ν0) (by simp);refine(XP .sh .sh .sh .sh a.p a.p O (by omega) (by omega)).view rfl (afE (hP.inc hi).LZ rfl (.same _) rfl) (λ_=>⟨_,rfl,ab.f rfl ?_⟩) (λh=>absurd rfl h);refine aa4 a.p.name 99 a.p (by omega) O (by omega) (Ow.nest (L1:=[_,_]) ((Ow.ord [2] h5).XH Ke)) λu4 h6=>⟨rfl,?_⟩;rw[Uk];exact hk es ps2 C u4 ⟨aaj,U.trans g.B,Q.trans g.M,aah,g.up,by rw[aiH];exact g.es⟩ (by omega) (Ow.swap h6)
 .
  have exc:∀{F:Kq},(∀(b:Bool) u',(∀{F2:Kq},(∀G,K (pB true) G->F2 (pB b) G)->aa prog 55 [pP r 0,pS a.p.name] u' F2)->F (pB b) u')->aa prog 54 [pP n 0,pS a.p.name] u F:=λ{F} hF=>by
   refine TK (by omega) a.p.name H (λq hq J I=>hF true J λ{F2} Lz=>?_) (λcM J I=>hF false J λ{F2} Lz=>?_)
   .exact Jw g.ok _ (Ow.swap I) (λq2 _ C G o1 o2 o3 o4 o5 h2=>Lz G (hk es (bu bc eQ a.p.name ps) C G ⟨o1,o2.trans g.B,o3.trans g.M,by rw[o5,g.ps],g.up,by rw[o4];exact g.es⟩ (by omega) (fi.wide (Ow.swap h2) (by omega)))) (λcM=>by rw[g.ps,hq]at cM;cases cM)
   .exact Jw g.ok _ (Ow.swap I) (λq2 IJ=>by rw[g.ps,cM]at IJ;cases IJ) (λ_=>Lz J (hk es ps y J g (by omega) (fi.wide I (by omega))))
  have eqb:∀b:Bool,(b == b)=true:=λb=>by cases b<;>rfl
  exact⟨⟨exc λb u' h=>⟨_,rfl,h λG hK=>⟨_,rfl,by rw[eqb];exact hK⟩,trivial⟩,trivial⟩,exc λb u' h=>⟨_,rfl,h λG hK=>⟨_,rfl,by rw[eqb];exact hK⟩,trivial⟩,trivial⟩
 .
  refine abk .sh a.o (by omega) (by omega) (Ow.swap H) λf d J hd I=>⟨_,_,rfl,?_⟩;have afk:∀r∈a.l.map aj.pv,r.length=12:=λr hr=>by obtain⟨z,_,rfl⟩:=mem_map.1 hr;rfl
  refine kI.c (rZ I afk (nR (pv:=aj.pv) (λ_=>rfl) a.l) (by simp;omega) (by simp;omega) λa1 c1 G h2=>⟨_,_,_,rfl,?_⟩);obtain⟨ν0,Ke,h3⟩:=h2.fix;rw[length_map]at Ke |-;refine IA (by omega) f a.l d (by omega) (by omega) (by omega) (λe he=>?_) (Jq (Ow.one Ke)) (L:=Is ν0::bA r y::L) (λρ h=>h.inc (by simp)) (Ow.ord [2,0,0] h3) λe Y u3 hc h4=>⟨_,rfl,?_⟩
  .have:=hwf e he;simp[Lit.wf,IntKind.min,IntKind.max,signed,IntKind.bits]at this;omega
  refine gE.c ?_;refine Ow.JE h4 (by simp;omega) (by simp;omega) λg1 u4 h5=>⟨_,_,rfl,?_⟩;rw[List.nil_append];refine PM g.ok g1 f a.l d (by omega) (by omega) (by omega) (Ow.ord [2] h5.drop) λe' l' C u5 sV aaj U Q aah UM h7=>⟨_,rfl,?_⟩;rw[g.B,g.M,g.ps]at sV;obtain⟨rfl,aid⟩:=hc.same g.es sV;have jh:Ad x Y ps C:=⟨aaj,U.trans g.B,Q.trans g.M,aah.trans g.ps,hc.up g.up,aid.trans UM⟩;have hlen:=hc.len g.up;have h8:=(Ow.ord [2] h7).XH Ke;refine ak.each (n:=a.l.length) (by omega) (λi u=>∃A:Lq,A.length=a.l.length/\(∀r∈A,r.length=12)/\Ow (ca 88 12 (.raw (.slice a1 a.l.length c1)) A::bA r C::fi n x Y ps w::L) u) ⟨_,by simp,afk,h8⟩ ?_ ?_
  .rintro i u next hi ⟨A,sS,hr,H⟩ au
   obtain⟨b2,rfl,_,fF⟩:=ca.at_ 0 H rfl hr (j:=i) (by omega);refine ab.t (by simpa using hi) ⟨by omega,by omega,?_⟩;rw[Int.toNat_natCast];have O:A[i].length=12:=hr _ (getElem_mem (by omega));refine fF 11 [pI (-9)] _ (by simp) λu' h'=>au _ ⟨_,by rw[List.length_set];exact sS,λr yd=>?_,h'⟩;rcases List.mem_or_eq_of_mem_set yd with h|rfl
   .exact hr r h
   .unfold du;simp only[List.length_append,length_take,List.length_drop,List.length_cons,List.length_nil];omega
  .rintro u next ⟨A,sS,hr,H⟩
   refine ab.f (by simp) ?_;rw[Uk];exact hk Y ps C u jh (by omega) (fi.wide (Ow.swap H.drop) (by omega))
end
def LK(tk j:Int)(l:List xp)(UL:(∀s∈l,∀e∈s.l,(Lit.int .i64 e.tag).wf=true)/\l.length<=maxLen):Pure prog 4 [pI tk,pI j,.list 6 .sh (l.map xp.pv)] (pB true):=by
 refine av.of (ou.c ?_);by_cases hr:1<=tk/\tk<=1024/\1<=j/\j<=1024
 .obtain⟨r1,r2,r3,r4⟩:=hr;refine NH tk j (L:=[]) trivial (λh=>absurd ⟨r1,r2,r3,r4⟩ h) λ_ n x u hT hM h1=>⟨_,_,rfl,⟨λs A=>s=false/\A=u,ab.f (by simpa using r1) (ab.f (by simpa using r2) (ab.f (by simpa using r3) ⟨by simpa using r4,rfl⟩)),?_⟩⟩;rintro s _ ⟨rfl,rfl⟩;refine ab.f rfl (ab.f rfl (ab.f rfl (av.call (TW .sh l) ?_)));rintro _ ⟨q,rfl,hq⟩;refine⟨_,rfl,ab.mk (λ_=>RW _ ⟨_,rfl,rfl⟩) (λh0=>?_)⟩;obtain⟨Po,hla⟩:=hq h0;intro b hb;have hB:1<=(if(60:Int)<tk then 60 else tk)/\(if(60:Int)<tk then 60 else tk)<=1024:=by split<;>omega
  have Q:(60:Int)<tk->(if(60:Int)<tk then 60 else tk)=60:=λh=>if_pos h;have O:¬(60:Int)<tk->(if(60:Int)<tk then 60 else tk)=tk:=λh=>if_neg h;generalize (if(60:Int)<tk then 60 else tk)=B at hB Q O |-;have h2:=h1.new 53 (oo.pv ⟨B,j,[],[],[],[]⟩ (.nil,.nil,.nil,.nil)) hb;have hy:gD ⟨B,j,[],[],[],[]⟩:=⟨hB,r4,Pairwise.nil,by simp,by simp,by simp,Pairwise.nil,rfl,rfl,by simp,by show((cJ [] []:Nat):Int)<=j;simp[cJ];omega⟩;have U:Ow (bA b ⟨B,j,[],[],[],[]⟩::fi n x [] [] 0::[]) _:=bA.shut (x:=⟨B,j,[],[],[],[]⟩) h2;refine⟨λs A=>∃n x,s=(some ⟨n,0,none⟩,0)/\x.T=B/\x.M=j/\Ow (fi n x [] [] 0::bA b ⟨B,j,[],[],[],[]⟩::[]) A,ab.mk (λg=>?_) (λg=>⟨n,x,rfl,?_,hM,Ow.swap U⟩),?_⟩
  .have g:(60:Int)<tk:=of_decide_eq_true g;exact NH 60 j (L:=[bA b ⟨B,j,[],[],[],[]⟩]) (U.tail λ_ _=>trivial) (λh=>absurd ⟨by omega,by omega,r3,r4⟩ h) λ_ n2 x2 J hT2 hM2 C=>⟨_,_,rfl,n2,x2,rfl,by rw[hT2,Q g],hM2,C⟩
  .rw[hT,O (of_decide_eq_false g)]
  clear h1 h2 U hT hM;rintro _ u ⟨n,x,rfl,hT,hM,U⟩;refine ak.each (n:=l.length) (by omega) (λi u=>∃es ps y,Ad x es ps y/\es.length<=8*i/\Ow (fi n x es ps i::bA b y::[]) u) ⟨[],[],_,⟨hy,hT.symm,hM.symm,rfl,Pairwise.nil,List.Perm.refl _⟩,by simp,U⟩ ?_ ?_
  .rintro k u next hk ⟨es,ps,y,H,hle,C⟩ au
   refine ab.t (by simpa using hk) (ab.f rfl ⟨by omega,_,aA hk,_,_,_,_,_,_,_,_,_,_,rfl,?_⟩);exact Xb l[k] (hla _ (getElem_mem hk)) (UL.1 _ (getElem_mem hk)) (by omega) H (by omega) C λoC Ec y' J jh Wx G=>⟨_,rfl,ab.f rfl (PQ (by omega) jh G λu3 h6=>⟨_,rfl,ab.f rfl (au _ ⟨oC,Ec,y',jh,by omega,h6⟩)⟩)⟩
  .rintro u next ⟨es,ps,y,H,hle,C⟩
   have C:=fi.wide C (w':=20) (by omega);obtain⟨_,_,_,_,Y,nH⟩:=fi.facts C;have Nj:∀p∈ps,bO p.conds/\ah p.conds<=1000000/\p.bd.length<=1000000:=λp hp=>by
    obtain⟨_,_,_,g4,g5,_,_⟩:=(Y p hp).facts;exact⟨(Y p hp).vM,by omega,by omega⟩
   refine ab.f (by simp) ?_;have rd:∀{u:Mem},Ow (fi n x es ps 20::bA b y::[]) u->∃f,ay u b 2 1=some [.list 3 f (y.ps.map Prod.pv)]:=λ{u} h=>by
    obtain⟨f,G⟩:=bA.open_ (Ow.swap h);exact⟨_,G.rd 0 rfl (by simp)⟩
   obtain⟨f0,Gi⟩:=rd C;have qP:∀{u:Mem} {F:Kq} (f g:Fl),F (pB true) u->aa prog 20 [.list 3 f (ps.map Prod.pv),.list 3 g (y.ps.map Prod.pv)] u F:=λ{u F} f g I=>(Zx f g ps y.ps (by omega) Nj).call (λ_=>I) (λh=>absurd H.ps.symm h);have mo:∀{u:Mem} {F:Kq},Ow (fi n x es ps 20::bA b y::[]) u->(∀(v:Int) A,(∀{F2:Kq},(∀J,F2 (pI v) J)->aa prog 24 [pP b 0] A F2)->F (pI v) A)->aa prog 23 [pP n 0] u F:=λ{u F} h I=>Ui H h λv A h' Lz=>I v A λ{F2} hF3=>Lz λJ _=>hF3 J;refine⟨⟨_,_,Gi,(NG n).call ⟨_,_,_,rfl,GJ (by omega) C λf2 J G=>⟨_,_,rfl,qP _ _ ⟨_,rfl,ab.t rfl ⟨mo G λv A I=>⟨_,rfl,I λu3=>⟨_,rfl,ab.t (Uk v) (RW _ ⟨_,rfl,rfl⟩),trivial⟩,trivial⟩,trivial⟩⟩,trivial⟩,trivial⟩,trivial⟩,(NG n).call ⟨_,_,_,rfl,⟨_,_,Gi,GJ (by omega) C λf2 J G=>⟨_,_,rfl,qP _ _ ⟨_,rfl,ab.t rfl ⟨mo G λv A I=>⟨_,rfl,I λu3=>⟨_,rfl,ab.t (Uk v) (RW _ ⟨_,rfl,rfl⟩),trivial⟩,trivial⟩,trivial⟩⟩,trivial⟩,trivial⟩,GJ (by omega) C λf2 J G=>?_,trivial⟩,trivial⟩;obtain⟨f5,hr5⟩:=rd G;exact⟨_,_,rfl,_,_,hr5,qP _ _ ⟨_,rfl,ab.t rfl ⟨mo G λv A I=>⟨_,rfl,I λu3=>⟨_,rfl,ab.t (Uk v) (RW _ ⟨_,rfl,rfl⟩),trivial⟩,trivial⟩,trivial⟩⟩,trivial⟩
 .refine NH tk j (L:=[]) trivial (λ_=>⟨_,_,rfl,⟨λs _=>s=true,ab.mk (λ_=>rfl) (λg1=>ab.mk (λ_=>rfl) (λg2=>ab.mk (λ_=>rfl) (λg3=>?_))),?_⟩⟩) (λh=>absurd h hr)
  .have g1:=of_decide_eq_false g1;have g2:=of_decide_eq_false g2;have g3:=of_decide_eq_false g3;exact decide_eq_true (by omega)
  .rintro s u rfl;exact ab.t rfl (ab.t rfl (ab.t rfl (RW _ ⟨_,rfl,rfl⟩)))
end Go.Proofs.YthaeiehophlooaaGreat
