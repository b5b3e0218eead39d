import Derived.Test.YtbkejjmjopgpoaaGreatB08
import Derived.Test.YtbkejjmjopgpoaaGreatB09
set_option linter.all false
namespace Go.az.Xv
open Go.RowKit Go.az
theorem agL{P:Program}{M:Tr FuncId}{T:Tr zA}{lf n f:Nat}{args:List PV}{v:PV}{w w':XW}(k_:P.follows .mixedOrders=true)(hM:zG P M)(hT:sO P T)(hx:zf P M T lf n [] [] (.fn (.func f) [] []) args w=.ok (v,w'))
  {β:aU} {cg:List PV} (ha:bq β args cg) {μ:Mem} (hm:fq β (getM [] w) μ) {K:Kq} (hK:∀γ v' μ',β.le γ->Rl γ v v'->fq γ (getM [] w') μ'->K v' μ'):ab P f cg μ K:=by
 have:=ze (lf:=lf) k_ hM hT n [] [] _ _ _ _ _ hx β (.fn (.func f) [] []) cg μ K (.fn _ _ [] [] [] [] (.func f) rfl rfl (by simp) (by simp)) ha trivial hm hK
 simpa[bc]using this
section
variable (D:Nat->Bool)
noncomputable def okV:Value->Bool
 | .pointer (some ⟨i,_,none⟩)=>D i
 | .slice (some ⟨i,_,none⟩) _ _=>D i
 |v=>NI v
noncomputable def okN:Fn->Bool
 | .func _=>true
 | .yield i=>D i
 |_=>false
mutual
noncomputable def Ny:PV->Bool
 | .raw v=>okV D v
 | .fn f a c=>okN D f&&(xp a&&xp c)
 | .agg l=>xp l
 | .aC l=>xp l
 | .iface _ p=>Ny p
 | .box _ _=>true
 | .au=>true
 |_=>false
noncomputable def xp:List PV->Bool
 |[]=>true
 |p::l=>Ny p&&xp l
end
noncomputable def okO:XO->Bool
 | .cells _ cs=>xp D cs
 | .vec _ _ cs=>xp D cs
 | .dead=>true
 |_=>false
end
theorem p_{D:Nat->Bool}:∀{l:List PV} {i:Nat} {p:PV},xp D l=true->l[i]?=some p->Ny D p=true
 |[],i,p,h,hp=>by cases hp
 |q::l,0,p,h,hp=>by
  simp only[List.getElem?_cons_zero,Option.some.injEq]at hp
  subst hp
  simp only[xp,Bool.and_eq_true]at h
  exact h.1
 |q::l,i+1,p,h,hp=>by
  simp only[List.getElem?_cons_succ]at hp
  simp only[xp,Bool.and_eq_true]at h
  exact p_ h.2 hp
def aU.cut(β:aU)(D:Nat->Bool):aU:=⟨λi=>bif D i then β.m i else none,β.r⟩
theorem aU.jT{β:aU}{D:Nat->Bool}{i:Nat}(h:D i=true):(β.cut D).m i=β.m i:=by
 show(bif D i then β.m i else none)=β.m i
 rw[h];rfl
theorem Dq.cut{β:aU}{D:Nat->Bool}{v w:Value}(h:Dq β v w)(hv:okV D v=true):Dq (β.cut D) v w:=by
 cases h with
 |cl _ h=>exact .cl _ h
 |ptr i o b a c h=>exact .ptr i o b a c ((aU.jT hv).trans h)
 |sl i o n k b a c h hk=>exact .sl i o n k b a c ((aU.jT hv).trans h) hk
 |vs i o n l b a c h hl=>exact .vs i o n l b a c ((aU.jT hv).trans h) hl
 |ve i o l b a o' h ho=>exact .ve i o l b a o' ((aU.jT hv).trans h) ho
theorem Rl.cut{β:aU}{D:Nat->Bool}{p q:PV}(h:Rl β p q):Ny D p=true->Rl (β.cut D) p q:=by
 induction h with
 |raw v w h=>intro k;exact .raw v w (h.cut (by simpa only[Ny]using k))
 |fn f g a b c d hf h1 h2 ha hc ih1 ih2=>
  intro k
  simp only[Ny,Bool.and_eq_true]at k
  refine .fn f g a b c d ?_ h1 h2 (λi p q hp hq=>ih1 i p q hp hq (p_ k.2.1 hp)) (λi p q hp hq=>ih2 i p q hp hq (p_ k.2.2 hp))
  cases hf with
  |func g=>exact .func g
  |yield i l a c h=>exact .yield i l a c ((aU.jT (by simpa only[okN]using k.1)).trans h)
 |agg a b h1 ha ih=>intro k;simp only[Ny]at k;exact .agg a b h1 λi p q hp hq=>ih i p q hp hq (p_ k hp)
 |aC a b h1 ha ih=>intro k;simp only[Ny]at k;exact .aC a b h1 λi p q hp hq=>ih i p q hp hq (p_ k hp)
 |iface t p q h ih=>intro k;simp only[Ny]at k;exact .iface t p q (ih k)
 |box k o=>intro _;exact .box k o
 |au p=>intro _;exact .au p
theorem bq.cut{β:aU}{D:Nat->Bool}{a b:List PV}(h:bq β a b)(k:xp D a=true):bq (β.cut D) a b:=⟨h.1,λi p q hp hq=>(h.2 i p q hp hq).cut (p_ k hp)⟩
theorem qA.cut{β:aU}{D:Nat->Bool}{μ:Mem}{i:Nat}{e:XO}(h:qA β μ i e)(hi:D i=true)(k:okO D e=true):qA (β.cut D) μ i e:=by
 cases e with
 |cells T cs=>obtain⟨b,c,cN,h1,h2,h3⟩:=h;exact⟨b,c,cN,(aU.jT hi).trans h1,h2,h3.cut (by simpa only[okO]using k)⟩
 |vec T sz cs=>obtain⟨b,a,c,cN,h1,h2,h3,h4,h5⟩:=h;exact⟨b,a,c,cN,(aU.jT hi).trans h1,h2,h3,h4,h5.cut (by simpa only[okO]using k)⟩
 |lp p=>cases k
 |hole=>cases k
 |dead=>trivial
noncomputable def Tr.Av{α:Type}(f:Nat->α->Bool)(t:Tr α):Bool:=
 Tr.rec (motive:=λ_=>(Nat->α->Bool)->Bool) (λ_=>true) (λ_ v _ ra rb f=>Option.rec true (λx=>f 0 x) v&&(ra (λk=>f (2*k+1))&&rb (λk=>f (2*k+2)))) t f
theorem Tr.Le{α:Type}{f:Nat->α->Bool}{a b:Tr α}{v:Option α}(h:(Tr.nd a v b).Av f=true):(∀x,v=some x->f 0 x=true)/\a.Av (λk=>f (2*k+1))=true/\b.Av (λk=>f (2*k+2))=true:=by
 have e:(Tr.nd a v b).Av f=((Option.rec true (λx=>f 0 x) v:Bool)&&(a.Av (λk=>f (2*k+1))&&b.Av (λk=>f (2*k+2)))):=rfl
 rw[e]at h
 simp only[Bool.and_eq_true]at h
 refine⟨λx hx=>?_,h.2.1,h.2.2⟩
 subst hx;exact h.1
theorem Tr.oZ{α:Type}:∀{t:Tr α} {f:Nat->α->Bool},t.Av f=true->∀{k:Nat} {x:α},t.get k=some x->f k x=true
 | .lf,f,h,k,x,hx=>by cases hx
 | .nd a v b,f,h,0,x,hx=>(Tr.Le h).1 x hx
 | .nd a v b,f,h,m+1,x,hx=>by
   obtain⟨_,h1,h2⟩:=Tr.Le h
   rw[Tr.jR]at hx
   by_cases hm:m % 2=1
   ·rw[if_pos hm]at hx
    have:=Tr.oZ h2 hx
    rw[show 2*(m/2)+2=m+1 by omega]at this
    exact this
   ·rw[if_neg hm]at hx
    have:=Tr.oZ h1 hx
    rw[show 2*(m/2)+1=m+1 by omega]at this
    exact this
noncomputable def eT(w:XW)(i:Nat):Bool:=(w.m.get i).isSome
structure Rec where
 args:List PV
 w:XW
 v:PV
 w2:XW
noncomputable def leO(e e':XO):Bool:=match e with| .dead=>true|_=>eqO e' e
noncomputable def hasB(w wK:XW):Bool:=wK.m.Av λi e=>match getM [] w i with|some e'=>leO e e'|none=>false
noncomputable def nj(w wK w2:XW):Bool:=w2.m.Av λi _=>(wK.m.get i).isSome||(getM [] w i).isNone
noncomputable def MW(w:XW):Bool:=w.m.Av λ_ e=>okO (eT w) e
noncomputable def BA(e:XO):XO:=match e with| .hole=>.hole|_=>.dead
noncomputable def EB(w2 w:XW):XW:=⟨Tr.tu w2.m (w.m.map BA) λt=>t,w2.nx⟩
noncomputable def yq(l:List Rec)(bs:Bs)(w:XW)(args:List PV):O (PV×XW):=
 match bs with
 |_::_=>.bad
 |[]=>List.rec .bad (λr _ next=>bif Iy args r.args&&(hasB w r.w&&nj w r.w r.w2)then .ok (r.v,EB r.w2 w)else next) l
noncomputable def aeG(x:O (PV×XW))(v:PV)(w2:XW):Bool:=O.rec false (λy=>yX y.1 v&&(Ny (eT w2) v&&(MW w2&&hasB y.2 w2))) x
def gw(P:Program)(f:FuncId)(r:Rec):Prop:=(xp (eT r.w) r.args&&MW r.w)=true/\∀(β:aU) (cg:List PV) (μ:Mem) (K:Kq),bq β r.args cg->fq β (getM [] r.w) μ->
 (∀γ v' μ',β.le γ->Rl (γ.cut (eT r.w2)) r.v v'->fq (γ.cut (eT r.w2)) (getM [] r.w2) μ'->K v' μ')->ab P f cg μ K
theorem yP(w:XW)(i:Nat):getM [] w i=w.m.get i:=by
 show(Option.rec none (λe=>some e) (w.m.get i):Option XO)=_
 cases w.m.get i<;>rfl
theorem uV(w2 w:XW)(i:Nat):getM [] (EB w2 w) i=(match w2.m.get i with|some v=>some v|none=>(w.m.get i).map BA):=by
 rw[yP]
 obtain⟨x,h1,h2⟩:=Tr.pY w2.m (w.m.map BA)
 show(Tr.tu w2.m (w.m.map BA) λt=>t).get i=_
 rw[h1,h2,Tr.get_map]
 cases w2.m.get i<;>rfl
theorem fq.has{β:aU}{w wK:XW}{μ:Mem}(h:fq β (getM [] w) μ)(hc:MW wK=true)(hh:hasB w wK=true):fq (β.cut (eT wK)) (getM [] wK) μ:=by
 have qZ:∀{i:Nat} {e:XO},getM [] wK i=some e->eT wK i=true/\okO (eT wK) e=true/\(e=.dead\/getM [] w i=some e):=λ{i e} he=>by
  rw[yP]at he
  refine⟨by unfold eT;rw[he];rfl,Tr.oZ hc he,?_⟩
  have h2:=Tr.oZ hh he
  split at h2
  ·rename_i e' h3
   unfold leO at h2
   split at h2
   ·exact .inl rfl
   ·exact .inr (by rw[h3,QK h2])
  ·cases h2
 have up:∀{i:Nat} {x:Nat×Nat×Nat},(β.cut (eT wK)).m i=some x->eT wK i=true/\β.m i=some x:=λ{i x} hx=>by
  cases hd:eT wK i with
  |false=>
   have:(bif eT wK i then β.m i else none)=some x:=hx
   rw[hd]at this;cases this
  |true=>exact⟨rfl,(aU.jT hd).symm.trans hx⟩
 refine⟨λi x hx=>?_,λi e he=>?_,λi j e e' x y hi hj v v' hx hy wh=>?_⟩
 ·rw[yP]
  have:=(up hx).1
  unfold eT at this
  intro hn;rw[hn]at this;cases this
 ·obtain⟨h1,h2,h3⟩:=qZ he
  rcases h3 with rfl|h3
  ·trivial
  ·exact(h.obj i e h3).cut h1 h2
 ·have gi:getM [] w i=some e:=by
   rcases(qZ hi).2.2 with rfl|h3
   ·cases v
   ·exact h3
  have gj:getM [] w j=some e':=by
   rcases(qZ hj).2.2 with rfl|h3
   ·cases v'
   ·exact h3
  exact h.inj i j e e' x y gi gj v v' (up hx).2 (up hy).2 wh
theorem gw.of{P:Program}{M:Tr FuncId}{T:Tr zA}{lf n f:Nat}{r:Rec}(k_:P.follows .mixedOrders=true)(hM:zG P M)(hT:sO P T)(hk:(xp (eT r.w) r.args&&MW r.w)=true)(hx:aeG (zf P M T lf n [] [] (.fn (.func f) [] []) r.args r.w) r.v r.w2=true):gw P f r:=by
 refine⟨hk,λβ cg μ K ha hm hK=>?_⟩
 cases hr:zf P M T lf n [] [] (.fn (.func f) [] []) r.args r.w with
 |bad=>rw[hr]at hx;cases hx
 |ok y=>
  obtain⟨v1,w1⟩:=y
  rw[hr]at hx
  replace hx:(yX v1 r.v&&(Ny (eT r.w2) r.v&&(MW r.w2&&hasB w1 r.w2)))=true:=hx
  simp only[Bool.and_eq_true]at hx
  obtain h0:=yW _ _ hx.1
  subst h0
  exact agL k_ hM hT hr ha hm λγ v' μ' hl hv hs=>hK γ v' μ' hl (hv.cut hx.2.1) (hs.has hx.2.2.1 hx.2.2.2)
def aU.mix(β γ:aU)(D:Nat->Bool):aU:=⟨λi=>bif D i then γ.m i else β.m i,λi=>bif D i then γ.r i else β.r i⟩
theorem aU.ER{β γ:aU}{D:Nat->Bool}{i:Nat}(h:D i=true):(β.mix γ D).m i=γ.m i/\(β.mix γ D).r i=γ.r i:=by
 constructor
 ·show(bif D i then γ.m i else β.m i)=_
  rw[h];rfl
 ·show(bif D i then γ.r i else β.r i)=_
  rw[h];rfl
theorem aU.Kg{β γ:aU}{D:Nat->Bool}{i:Nat}(h:D i=false):(β.mix γ D).m i=β.m i/\(β.mix γ D).r i=β.r i:=by
 constructor
 ·show(bif D i then γ.m i else β.m i)=_
  rw[h];rfl
 ·show(bif D i then γ.r i else β.r i)=_
  rw[h];rfl
theorem Yj{P:Program}{f:FuncId}{r:Rec}(hr:gw P f r){β:aU}{w:XW}{cg:List PV}{μ:Mem}{K:Kq}(ha:bq β r.args cg)(hm:fq β (getM [] w) μ)(hh:hasB w r.w=true)(hn:nj w r.w r.w2=true)
  (hK:∀γ v' μ',β.le γ->Rl γ r.v v'->fq γ (getM [] (EB r.w2 w)) μ'->K v' μ'):ab P f cg μ K:=by
 obtain⟨hk,hr⟩:=hr
 simp only[Bool.and_eq_true]at hk
 refine hr (β.cut (eT r.w)) cg μ K (ha.cut hk.1) (hm.has hk.2 hh) λγ v' μ' hl hv hs=>?_
 have uF:β.le (β.mix γ (eT r.w2)):=λi x hx=>by
  cases hd:eT r.w2 i with
  |false=>rw[(aU.Kg hd).1,(aU.Kg hd).2];exact⟨hx,rfl⟩
  |true=>
   have hD:eT r.w i=true:=by
    have Ut:(r.w2.m.get i).isSome=true:=hd
    obtain⟨e,he⟩:=Option.isSome_iff_exists.1 Ut
    have h1:=Tr.oZ hn he
    simp only[Bool.or_eq_true]at h1
    rcases h1 with h1|h1
    ·exact h1
    ·exact absurd (Option.isNone_iff_eq_none.1 h1) (hm.UR i x hx)
   obtain⟨h1,h2⟩:=hl i x ((aU.jT hD).trans hx)
   rw[(aU.ER hd).1,(aU.ER hd).2]
   exact⟨h1,h2⟩
 have up:∀{i:Nat} {x:Nat×Nat×Nat},(γ.cut (eT r.w2)).m i=some x->eT r.w2 i=true/\γ.m i=some x:=λ{i x} hx=>by
  cases hd:eT r.w2 i with
  |false=>
   have:(bif eT r.w2 i then γ.m i else none)=some x:=hx
   rw[hd]at this;cases this
  |true=>exact⟨rfl,(aU.jT hd).symm.trans hx⟩
 have hl3:(γ.cut (eT r.w2)).le (β.mix γ (eT r.w2)):=λi x hx=>by
  obtain⟨h1,h2⟩:=up hx
  rw[(aU.ER h1).1,(aU.ER h1).2]
  exact⟨h2,rfl⟩
 have dm:∀{i:Nat} {e:XO},r.w2.m.get i=some e->eT r.w2 i=true:=λ{i e} he=>by unfold eT;rw[he];rfl
 refine hK _ v' μ' uF (hv.mono hl3) ⟨λi x hx=>?_,λi e he=>?_,λi j e e' x y hi hj v1 v2 hx hy wh=>?_⟩
 ·rw[uV]
  cases h2:r.w2.m.get i with
  |some e=>simp
  |none=>
   have hd:eT r.w2 i=false:=by unfold eT;rw[h2];rfl
   rw[(aU.Kg hd).1]at hx
   have:=hm.UR i x hx
   rw[yP]at this
   simpa using this
 ·rw[uV]at he
  cases h2:r.w2.m.get i with
  |some e2=>
   rw[h2]at he
   cases he
   exact(hs.obj i e (by rw[yP];exact h2)).mono hl3
  |none=>
   rw[h2]at he
   simp only[Option.map_eq_some_iff]at he
   obtain⟨e0,h3,rfl⟩:=he
   unfold BA
   split
   ·have hd:eT r.w2 i=false:=by unfold eT;rw[h2];rfl
    obtain⟨l,hb⟩:=hm.obj i _ (by rw[yP];exact h3)
    exact⟨l,(aU.Kg hd).1.trans hb⟩
   ·trivial
 ·have key:∀{i:Nat} {e:XO} {x:Nat×Nat×Nat},getM [] (EB r.w2 w) i=some e->e.live=true->(β.mix γ (eT r.w2)).m i=some x->getM [] r.w2 i=some e/\(γ.cut (eT r.w2)).m i=some x:=λ{i e x} he hv hx=>by
   rw[uV]at he
   cases h2:r.w2.m.get i with
   |some e2=>
    rw[h2]at he
    cases he
    refine⟨by rw[yP];exact h2,?_⟩
    rw[(aU.ER (dm h2)).1]at hx
    exact(aU.jT (dm h2)).trans hx
   |none=>
    rw[h2]at he
    simp only[Option.map_eq_some_iff]at he
    obtain⟨e0,h3,rfl⟩:=he
    unfold BA at hv
    split at hv<;>cases hv
  obtain⟨a1,a2⟩:=key hi v1 hx
  obtain⟨b1,b2⟩:=key hj v2 hy
  exact hs.inj i j e e' x y a1 b1 v1 v2 a2 b2 wh
theorem kG{P:Program}{f:FuncId}{l:List Rec}(h:∀r∈l,gw P f r):Sj P f (yq l):=by
 intro β bs w args cg v w' μ K ha hm hF hK
 unfold yq at hF
 split at hF
 ·cases hF
 ·induction l with
  |nil=>cases hF
  |cons r l ih=>
   replace hF:(bif Iy args r.args&&(hasB w r.w&&nj w r.w r.w2)then .ok (r.v,EB r.w2 w)else yq l [] w args)=(.ok (v,w'):O (PV×XW)):=hF
   cases hb:(Iy args r.args&&(hasB w r.w&&nj w r.w r.w2))with
   |true=>
    rw[hb]at hF
    simp only[cond_true,O.ok.injEq,Prod.mk.injEq]at hF
    simp only[Bool.and_eq_true]at hb
    obtain⟨rfl,rfl⟩:=hF
    rw[jS _ _ hb.1]at ha
    exact Yj (h r (by simp)) ha hm hb.2.1 hb.2.2 hK
   |false=>
    rw[hb]at hF
    exact ih (λr' zN=>h r' (by simp[zN])) hF
theorem sO.put{P:Program}{T:Tr zA}(h:sO P T){g:FuncId}{e:zA}(he:ah P g e):sO P (T.bC g e λt=>t):=λk x hk=>by
 obtain⟨t,h1,h2⟩:=Tr.oc T g e
 rw[h1,h2]at hk
 split at hk
 ·rename_i ek;subst ek;cases hk;exact he
 ·exact h k x hk
theorem agM{P:Program}{M:Tr FuncId}{T:Tr zA}{lf n f k:Nat}{v:PV}{w2:XW}(k_:P.follows .mixedOrders=true)(hM:zG P M)(hT:sO P T)(hx:aeG (zf P M T lf n [] [] (.fn (.func f) [] []) [] ⟨.lf,k⟩) v w2=true)(μ:Mem){K:Kq}(hK:∀γ v' μ',Rl γ v v'->K v' μ'):ab P f [] μ K:=by
 cases hr:zf P M T lf n [] [] (.fn (.func f) [] []) [] ⟨.lf,k⟩with
 |bad=>rw[hr]at hx;cases hx
 |ok y=>
  obtain⟨v1,w1⟩:=y
  rw[hr]at hx
  replace hx:(yX v1 v&&(Ny (eT w2) v&&(MW w2&&hasB w1 w2)))=true:=hx
  simp only[Bool.and_eq_true]at hx
  obtain h0:=yW _ _ hx.1
  subst h0
  exact agN k_ hM hT hr (bq.nil _) λγ v' μ' hv _=>hK γ v' μ' hv
end Go.az.Xv
