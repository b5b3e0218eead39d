import Derived.Test.YtbkejjmjopgpoaaGreatB06
set_option linter.all false
namespace Go.az.Xv
open Go.RowKit Go.az
def qA(β:aU)(μ:Mem)(i:Nat):XO->Prop
 | .cells T cs=>∃b c cN,β.m i=some (b,0,c)/\μ b=some (.cells T cN)/\bq β cs cN
 | .vec T sz cs=>∃b a c cN,β.m i=some (b,a,c)/\μ b=some (.cells T cN)/\cN.length=a+c*sz/\cs.length<=c*sz/\bq β cs ((cN.drop a).take cs.length)
 | .lp p=>∃l,β.m i=some (l,0,0)/\μ l=some (β.r i p)
 | .hole=>∃l,β.m i=some (l,0,0)
 | .dead=>True
def XO.live:XO->Bool
 | .cells .. | .vec .. | .lp _=>true
 |_=>false
structure fq(β:aU)(g:Nat->Option XO)(μ:Mem):Prop where
 UR:∀i x,β.m i=some x->g i≠none
 obj:∀i e,g i=some e->qA β μ i e
 inj:∀i j e e' x y,g i=some e->g j=some e'->e.live=true->e'.live=true->β.m i=some x->β.m j=some y->x.1=y.1->i=j
theorem qA.mono{β γ:aU}(hl:β.le γ){μ:Mem}{i:Nat}{e:XO}(h:qA β μ i e):qA γ μ i e:=by
 cases e with
 |cells T cs=>obtain⟨b,c,cN,h1,h2,h3⟩:=h;exact⟨b,c,cN,(hl _ _ h1).1,h2,h3.mono hl⟩
 |vec T sz cs=>obtain⟨b,a,c,cN,h1,h2,h3,h4,h5⟩:=h;exact⟨b,a,c,cN,(hl _ _ h1).1,h2,h3,h4,h5.mono hl⟩
 |lp p=>obtain⟨l,h1,h2⟩:=h;exact⟨l,(hl _ _ h1).1,by rw[(hl _ _ h1).2];exact h2⟩
 |hole=>obtain⟨l,h1⟩:=h;exact⟨l,(hl _ _ h1).1⟩
 |dead=>trivial
theorem qA.at{β:aU}{μ:Mem}{i:Nat}{e:XO}(h:qA β μ i e)(hv:e.live=true):∃x,β.m i=some x/\μ x.1≠none:=by
 cases e with
 |cells T cs=>obtain⟨b,c,cN,h1,h2,h3⟩:=h;exact⟨_,h1,by simp[h2]⟩
 |vec T sz cs=>obtain⟨b,a,c,cN,h1,h2,_⟩:=h;exact⟨_,h1,by simp[h2]⟩
 |lp p=>obtain⟨l,h1,h2⟩:=h;exact⟨_,h1,by simp[h2]⟩
 |hole=>cases hv
 |dead=>cases hv
theorem qA.set{β:aU}{μ:Mem}{i:Nat}{e:XO}(h:qA β μ i e){b:Nat}{o:Option Ob}(hb:e.live=true->∀x,β.m i=some x->x.1≠b):qA β (μ.set b o) i e:=by
 cases e with
 |cells T cs=>obtain⟨b',c,cN,h1,h2,h3⟩:=h;exact⟨b',c,cN,h1,by rw[Mem.aw _ _ (hb rfl _ h1)];exact h2,h3⟩
 |vec T sz cs=>obtain⟨b',a,c,cN,h1,h2,h3⟩:=h;exact⟨b',a,c,cN,h1,by rw[Mem.aw _ _ (hb rfl _ h1)];exact h2,h3⟩
 |lp p=>obtain⟨l,h1,h2⟩:=h;exact⟨l,h1,by rw[Mem.aw _ _ (hb rfl _ h1)];exact h2⟩
 |hole=>exact h
 |dead=>trivial
theorem gn(w:XW)(i:Nat)(e:XO):∃w':XW,(∀{γ:Type} (K:XW->γ),gz w i e K=K w')/\w'.nx=w.nx/\∀bs j,getM bs w' j=if j=i then some e else getM bs w j:=by
 obtain⟨m,nx⟩:=w
 obtain⟨t,h1,h2⟩:=Tr.oc m i e
 refine⟨⟨t,nx⟩,λK=>h1 _,rfl,λbs j=>?_⟩
 show(Option.rec (iN bs j) (λe=>some e) (t.get j):Option XO)=_
 rw[h2]
 by_cases e':j=i
 ·rw[if_pos e',if_pos e']
 ·rw[if_neg e',if_neg e'];rfl
theorem lN{γ:Type}{bs:Bs}{w:XW}{i:Nat}{e:XO}{K:XW->O γ}{r:γ}(h:ca bs w i e K=.ok r):getM bs w i=none/\∃w',K w'=.ok r/\w'.nx=w.nx/\∀j,getM bs w' j=if j=i then some e else getM bs w j:=by
 unfold ca at h
 split at h
 ·rename_i hn
  obtain⟨w',h1,h2,h3⟩:=gn w i e
  rw[h1]at h
  exact⟨hn,w',h,h2,h3 bs⟩
 ·cases h
theorem fq.GO{β:aU}{g g':Nat->Option XO}{μ:Mem}(h:fq β g μ){i:Nat}{e e':XO}{x:Nat×Nat×Nat}(hi:g i=some e)(hv:e.live=true)(hx:β.m i=some x){o:Option Ob}(hg:∀j,g' j=if j=i then some e' else g j)
  (hn:qA β (μ.set x.1 o) i e'):fq β g' (μ.set x.1 o):=by
 refine⟨λj y hy=>?_,λj f hf=>?_,λj k f f' y z hf qd v v' hy hz HY=>?_⟩
 ·rw[hg];split
  ·simp
  ·exact h.UR j y hy
 ·rw[hg]at hf;split at hf
  ·rename_i e0;subst e0;cases hf;exact hn
  ·rename_i bm
   refine(h.obj j f hf).set λv y hy hb=>bm (h.inj j i f e y x hf hi v hv hy hx hb)
 ·have qZ:∀{j:Nat} {f:XO},g' j=some f->f.live=true->∃f0,g j=some f0/\f0.live=true:=by
   intro j f hf v
   rw[hg]at hf;split at hf
   ·rename_i e0;subst e0;exact⟨e,hi,hv⟩
   ·exact⟨f,hf,v⟩
  obtain⟨f0,q1,q2⟩:=qZ hf v
  obtain⟨f1,q3,q4⟩:=qZ qd v'
  exact h.inj j k f0 f1 y z q1 q3 q2 q4 hy hz HY
def aU.ext(β:aU)(i:Nat)(x:Nat×Nat×Nat)(r:Option Code->Ob):aU:=⟨λj=>if j=i then some x else β.m j,λj=>if j=i then r else β.r j⟩
theorem aU.oG{β:aU}{i:Nat}(hi:β.m i=none)(x:Nat×Nat×Nat)(r:Option Code->Ob):β.le (β.ext i x r):=λj y hy=>by
 have:j≠i:=by rintro rfl;rw[hi]at hy;cases hy
 exact⟨by simp[aU.ext,this,hy],by simp[aU.ext,this]⟩
theorem aU.oU(β:aU)(i:Nat)(x:Nat×Nat×Nat)(r:Option Code->Ob):(β.ext i x r).m i=some x/\(β.ext i x r).r i=r:=by simp[aU.ext]
theorem fq.fresh{β:aU}{g:Nat->Option XO}{μ:Mem}(h:fq β g μ){i:Nat}(hi:g i=none):β.m i=none:=by
 cases hb:β.m i with
 |none=>rfl
 |some x=>exact absurd hi (h.UR i x hb)
theorem fq.new{β:aU}{g g':Nat->Option XO}{μ:Mem}(h:fq β g μ){i:Nat}{e:XO}(hi:g i=none)(x:Nat×Nat×Nat)(r:Option Code->Ob){o:Option Ob}(hb:μ x.1=none)(hg:∀j,g' j=if j=i then some e else g j)
  (hn:qA (β.ext i x r) (μ.set x.1 o) i e):fq (β.ext i x r) g' (μ.set x.1 o):=by
 have hle:=aU.oG (h.fresh hi) x r
 have ED:∀{j:Nat} {y:Nat×Nat×Nat},(β.ext i x r).m j=some y->j≠i->β.m j=some y:=λ{j y} hy bm=>by simpa[aU.ext,bm]using hy
 have ne:∀{j:Nat} {f:XO} {y:Nat×Nat×Nat},g j=some f->f.live=true->β.m j=some y->y.1≠x.1:=λ{j f y} hf v hy e0=>by
  obtain⟨z,hz,hm⟩:=(h.obj j f hf).at v
  rw[hy]at hz;cases hz
  exact hm (by rw[e0];exact hb)
 refine⟨λj y hy=>?_,λj f hf=>?_,λj k f f' y z hf qd v v' hy hz HY=>?_⟩
 ·rw[hg];split
  ·simp
  ·rename_i bm;exact h.UR j y (ED hy bm)
 ·rw[hg]at hf;split at hf
  ·rename_i e0;subst e0;cases hf;exact hn
  ·rename_i bm
   exact((h.obj j f hf).set (b:=x.1) (o:=o) λv y hy=>ne hf v hy).mono hle
 ·rw[hg]at hf qd
  split at hf<;>split at qd
  ·rename_i e1 e2;rw[e1,e2]
  ·rename_i e1 e2
   subst e1
   rw[(aU.oU β j x r).1]at hy;cases hy
   exact absurd HY.symm (ne qd v' (ED hz e2))
  ·rename_i e1 e2
   subst e2
   rw[(aU.oU β k x r).1]at hz;cases hz
   exact absurd HY (ne hf v (ED hy e1))
  ·rename_i e1 e2
   exact h.inj j k f f' y z hf qd v v' (ED hy e1) (ED hz e2) HY
theorem fq.kill{β:aU}{g g':Nat->Option XO}{μ:Mem}(h:fq β g μ){i:Nat}(hi:g i≠none)(hg:∀j,g' j=if j=i then some .dead else g j):fq β g' μ:=by
 refine⟨λj y hy=>?_,λj f hf=>?_,λj k f f' y z hf qd v v' hy hz HY=>?_⟩
 ·rw[hg];split
  ·simp
  ·exact h.UR j y hy
 ·rw[hg]at hf;split at hf
  ·cases hf;trivial
  ·exact h.obj j f hf
 ·rw[hg]at hf qd
  split at hf
  ·cases hf;cases v
  ·split at qd
   ·cases qd;cases v'
   ·exact h.inj j k f f' y z hf qd v v' hy hz HY
theorem jq{β:aU}{bs:Bs}{w:XW}{μ:Mem}(h:fq β (getM bs w) μ){i o n:Nat}{cs:List PV}(hr:Eo bs w i o n=some cs):∃x,β.m i=some x/\∃cN,aN μ x.1 (x.2.1+o) n=some cN/\bq β cs cN:=by
 unfold Eo at hr
 split at hr
 ·rename_i T ds hg
  obtain⟨b,c,UQ,h1,h2,h3⟩:=h.obj i _ hg
  cases hb:Nat.ble (Nat.add o n) ds.length with
  |false=>rw[hb]at hr;cases hr
  |true=>
   rw[hb]at hr
   simp only[cond_true,Option.some.injEq]at hr
   have hle:o+n<=ds.length:=Nat.le_of_ble_eq_true hb
   refine⟨_,h1,(UQ.drop o).take n,?_,?_⟩
   ·unfold aN
    simp only[h2]
    rw[if_pos (by rw[<- h3.1];omega)];simp
   ·subst hr;exact(h3.drop o).take n
 ·rename_i T sz ds hg
  obtain⟨b,a,c,UQ,h1,h2,h3,h4,h5⟩:=h.obj i _ hg
  cases hb:Nat.ble (Nat.add o n) ds.length with
  |false=>rw[hb]at hr;cases hr
  |true=>
   rw[hb]at hr
   simp only[cond_true,Option.some.injEq]at hr
   have hle:o+n<=ds.length:=Nat.le_of_ble_eq_true hb
   refine⟨_,h1,(UQ.drop (a+o)).take n,?_,?_⟩
   ·unfold aN
    simp only[h2]
    rw[if_pos (by omega)]
   ·subst hr
    have h6:=(h5.drop o).take n
    rw[List.drop_take,List.drop_drop,List.take_take,Nat.min_eq_left (by omega)]at h6
    exact h6
 ·cases hr
theorem DP(cs:List PV)(a o:Nat)(vs:List PV)(h:a+o<=cs.length):(ei cs (a+o) vs).drop a=ei (cs.drop a) o vs:=by
 unfold ei
 rw[List.append_assoc,List.drop_append_of_le_length (by simp;omega),List.drop_take,List.drop_drop,List.append_assoc,show a+o-a=o by omega,show a+o+vs.length=a+(o+vs.length) by omega]
theorem Oc(X:List PV)(n o:Nat)(vs:List PV)(h:o+vs.length<=n)(hX:n<=X.length):(ei X o vs).take n=ei (X.take n) o vs:=by
 unfold ei
 have h1:(X.take o++vs).length=o+vs.length:=by simp;omega
 rw[List.take_append,h1,List.take_of_length_le (by omega),List.take_take,Nat.min_eq_left (by omega),List.drop_take]
theorem bq.ei{β:aU}{a b c d:List PV}(h:bq β a b)(k:bq β c d)(o:Nat):bq β (ei a o c) (ei b o d):=by
 unfold az.ei
 rw[k.1]
 exact((h.take o).append k).append (h.drop _)
theorem rk(cs vs:List PV)(o:Nat)(h:o+vs.length<=cs.length):(az.ei cs o vs).length=cs.length:=by
 unfold az.ei
 simp;omega
theorem Th{β:aU}{bs:Bs}{w w':XW}{μ:Mem}(h:fq β (getM bs w) μ){i o:Nat}{vs fu:List PV}(hv:bq β vs fu)(hr:stX bs w i o vs=.ok w'):∃x,β.m i=some x/\∀K:Mem->Prop,(∀μ',fq β (getM bs w') μ'->K μ')->stM x.1 (x.2.1+o) fu μ K:=by
 unfold stX at hr
 split at hr
 ·rename_i T ds hg
  obtain⟨b,c,UQ,h1,h2,h3⟩:=h.obj i _ hg
  cases hb:Nat.ble (Nat.add o vs.length) ds.length with
  |false=>rw[hb]at hr;cases hr
  |true=>
   rw[hb]at hr
   simp only[cond_true]at hr
   have hle:o+vs.length<=ds.length:=Nat.le_of_ble_eq_true hb
   obtain⟨w1,e1,_,e3⟩:=gn w i (.cells T (az.ei ds o vs))
   rw[e1]at hr;cases hr
   refine⟨_,h1,λK hK=>⟨T,UQ,h2,by rw[<- hv.1,<- h3.1];simp only;omega,hK _ ?_⟩⟩
   refine h.GO hg rfl h1 (e3 bs) ⟨b,c,_,h1,Mem.ai _ _ _,?_⟩
   simp only[Nat.zero_add]
   exact h3.ei hv o
 ·rename_i T sz ds hg
  obtain⟨b,a,c,UQ,h1,h2,h3,h4,h5⟩:=h.obj i _ hg
  cases hb:Nat.ble (Nat.add o vs.length) ds.length with
  |false=>rw[hb]at hr;cases hr
  |true=>
   rw[hb]at hr
   simp only[cond_true]at hr
   have hle:o+vs.length<=ds.length:=Nat.le_of_ble_eq_true hb
   obtain⟨w1,e1,_,e3⟩:=gn w i (.vec T sz (az.ei ds o vs))
   rw[e1]at hr;cases hr
   refine⟨_,h1,λK hK=>⟨T,UQ,h2,by show a+o+fu.length<=UQ.length;rw[<- hv.1];omega,hK _ ?_⟩⟩
   have hl:(az.ei ds o vs).length=ds.length:=rk _ _ _ hle
   refine h.GO hg rfl h1 (e3 bs) ⟨b,a,c,az.ei UQ (a+o) fu,h1,Mem.ai _ _ _,?_,by rw[hl];exact h4,?_⟩
   ·rw[rk _ _ _ (by rw[<- hv.1];omega)];exact h3
   ·rw[hl,DP _ _ _ _ (by omega),Oc _ _ _ _ (by rw[<- hv.1];exact hle) (by simp;omega)]
    exact h5.ei hv o
 ·cases hr
theorem Dq.kind{β:aU}{v w:Value}(h:Dq β v w)(k:K1)(hk:(k.get v).isSome=true):(k.get w).isSome=true:=by
 cases h with
 |cl v h=>exact hk
 |_=>cases k<;>simp_all [K1.get]
theorem Rl.kind{β:aU}{p q:PV}(h:Rl β p q){k:KV}(hk:PX k p=true){F:PV->Prop}(hF:F q):UJ k F:=by
 cases h with
 |raw v w h=>
  cases k with
  |raw k=>
   have h1:(k.get w).isSome=true:=h.kind k hk
   obtain⟨x,hx⟩:=Option.isSome_iff_exists.1 h1
   have:=K1.yO hx
   subst this
   cases k<;>first
    |exact⟨x,hF⟩
    |exact⟨x.1,x.2.1,x.2.2,hF⟩
    |exact x.elim
  |list sz=>cases hk
  |fn=>cases hk
 |fn f g a b c d hf h1 h2 ha hc=>
  cases k with
  |fn=>exact⟨g,b,d,hF⟩
  |_=>cases hk
 |_=>cases k<;>cases hk
theorem bq.kinds{β:aU}:∀{a b:List PV} {ks:List KV},bq β a b->oH ks a=true->∀{F:List PV->Prop},F b->yU ks F
 |[],b,ks,h,hk,F,hF=>by
  cases ks with
  |nil=>rw[h.cW]at hF;exact hF
  |cons k ks=>cases hk
 |p::a,b,ks,h,hk,F,hF=>by
  cases ks with
  |nil=>cases hk
  |cons k ks=>
   obtain⟨q,b',rfl,h1,h2⟩:=h.inv
   simp only[oH,Bool.and_eq_true]at hk
   exact h1.kind hk.1 (F:=λv=>yU ks λvs=>F (v::vs)) (bq.kinds h2 hk.2 (F:=λvs=>F (q::vs)) hF)
theorem Rl.ok{β:aU}{p q:PV}(h:Rl β p q)(hk:p.ok=true):q.ok=true:=by
 cases h<;>first|rfl|(simp[PV.ok,PV.cell]at hk)
theorem Rl.cell{β:aU}{p q:PV}(h:Rl β p q)(hk:p.cell=true):q.cell=true:=by
 cases h<;>first|rfl|(simp[PV.cell]at hk)
theorem Rl.cells{β:aU}{p q:PV}(h:Rl β p q)(hk:p.ok=true):bq β p.cells q.cells:=by
 cases h with
 |agg a b h1 ha=>exact⟨h1,ha⟩
 |raw v w h=>exact bq.cons (.raw v w h) (bq.nil β)
 |fn f g a b c d hf h1 h2 ha hc=>exact bq.cons (.fn f g a b c d hf h1 h2 ha hc) (bq.nil β)
 |iface t p q h=>exact bq.cons (.iface t p q h) (bq.nil β)
 |aC a b h1 ha=>cases hk
 |box k o=>cases hk
 |au p=>cases hk
theorem bq.aE{β:aU}{a b:List PV}(h:bq β a b)(hk:aE a=true):aE b=true:=by
 induction a generalizing b with
 |nil=>rw[h.cW];rfl
 |cons p a ih=>
  obtain⟨q,b',rfl,h1,h2⟩:=h.inv
  simp only[az.aE,List.all_cons,Bool.and_eq_true]at hk |-
  exact⟨h1.cell hk.1,ih h2 hk.2⟩
theorem Rl.Sn{β:aU}{p q:PV}(h:Rl β p q)(sz:Nat):Rl β p (Sn sz q):=by
 cases h with
 |au p=>exact .au _
 |raw v w h=>exact .raw v w h
 |fn f g a b c d hf h1 h2 ha hc=>exact .fn f g a b c d hf h1 h2 ha hc
 |agg a b h1 ha=>exact .agg a b h1 ha
 |aC a b h1 ha=>exact .aC a b h1 ha
 |iface t p q h=>exact .iface t p q h
 |box k o=>exact .box k o
theorem Rl.cu{β:aU}{p q:PV}(h:Rl β p q):Rl β p (cu q):=by
 cases h with
 |au p=>exact .au _
 |raw v w h=>exact .raw v w h
 |fn f g a b c d hf h1 h2 ha hc=>exact .fn f g a b c d hf h1 h2 ha hc
 |agg a b h1 ha=>exact .agg a b h1 ha
 |aC a b h1 ha=>exact .aC a b h1 ha
 |iface t p q h=>exact .iface t p q h
 |box k o=>exact .box k o
theorem Rl.nN{β:aU}{p q:PV}(h:Rl β p q)(r:Bool):Rl β p (nN r q):=by
 cases r with
 |false=>exact h
 |true=>
  cases h with
  |au p=>exact .au _
  |raw v w h=>exact .raw v w h
  |fn f g a b c d hf h1 h2 ha hc=>exact .fn f g a b c d hf h1 h2 ha hc
  |agg a b h1 ha=>exact .agg a b h1 ha
  |aC a b h1 ha=>exact .aC a b h1 ha
  |iface t p q h=>exact .iface t p q h
  |box k o=>exact .box k o
theorem bq.oC{β:aU}:∀(ks:List KV) {a b:List PV},bq β a b->bq β a (oC ks b)
 |[],a,b,h=>by cases b<;>exact h
 |k::ks,[],b,h=>by rw[h.cW];cases k<;>exact bq.nil β
 |k::ks,p::a,b,h=>by
  obtain⟨q,b',rfl,h1,h2⟩:=h.inv
  cases k with
  |list sz=>exact bq.cons (h1.Sn sz) (bq.oC ks h2)
  |raw k=>exact bq.cons h1 (bq.oC ks h2)
  |fn=>exact bq.cons h1 (bq.oC ks h2)
theorem Rl.b_{β:aU}{p q:PV}(h:Rl β p q)(P:Program)(t:TypeId):Rl β p (b_ P t q):=by
 cases h with
 |au p=>exact .au _
 |agg a b h1 ha=>
  unfold az.b_
  split
  ·rename_i ks hk
   exact Rl.Aw (bq.oC ks ⟨h1,ha⟩)
  ·exact .agg a b h1 ha
 |raw v w h=>unfold az.b_;split<;>exact .raw v w h
 |fn f g a b c d hf h1 h2 ha hc=>unfold az.b_;split<;>exact .fn f g a b c d hf h1 h2 ha hc
 |aC a b h1 ha=>unfold az.b_;split<;>exact .aC a b h1 ha
 |iface t p q h=>unfold az.b_;split<;>exact .iface t p q h
 |box k o=>unfold az.b_;split<;>exact .box k o
theorem bq.wks{β:aU}{a b:List PV}(h:bq β a b):bq β a (b.map az.cu):=by
 induction a generalizing b with
 |nil=>rw[h.cW];exact bq.nil β
 |cons p a ih=>obtain⟨q,b',rfl,h1,h2⟩:=h.inv;exact bq.cons h1.cu (ih h2)
theorem Rl.zM{β:aU}{p q:PV}(h:Rl β p q):Rl β p (zM q):=by
 cases h with
 |au p=>exact .au _
 |agg a b h1 ha=>exact Rl.Aw (bq.wks ⟨h1,ha⟩)
 |raw v w h=>exact .raw v w h
 |fn f g a b c d hf h1 h2 ha hc=>exact .fn f g a b c d hf h1 h2 ha hc
 |aC a b h1 ha=>exact .aC a b h1 ha
 |iface t p q h=>exact .iface t p q h
 |box k o=>exact .box k o
theorem Rl.wk{β:aU}{p q:PV}(h:Rl β p q):Rl β p (wk q):=by
 cases h with
 |au p=>exact .au _
 |agg a b h1 ha=>exact Rl.Aw (bq.wks ⟨h1,ha⟩)
 |raw v w h=>exact .raw v w h
 |fn f g a b c d hf h1 h2 ha hc=>exact .fn f g a b c d hf h1 h2 ha hc
 |aC a b h1 ha=>
  refine Rl.SX ⟨by simp[h1],λi x y hx hy=>?_⟩
  rw[List.getElem?_map]at hy
  cases hb:b[i]? with
  |none=>rw[hb]at hy;cases hy
  |some z=>
   rw[hb]at hy
   simp only[Option.map_some,Option.some.injEq]at hy
   subst hy
   exact(ha i x z hx hb).cu.zM
 |iface t p q h=>exact .iface t p q h
 |box k o=>exact .box k o
theorem bq.xX{β:aU}(fU:List Nat)(k:Nat):∀(i:Nat) {a b:List PV},bq β a b->bq β a (xX fU k i b)
 |i,[],b,h=>by rw[h.cW];exact bq.nil β
 |i,p::a,b,h=>by
  obtain⟨q,b',rfl,h1,h2⟩:=h.inv
  exact bq.cons (h1.nN _) (bq.xX fU k (i+1) h2)
theorem bq.qp{β:aU}(fU:List Nat)(k:Option Nat){a b:List PV}(h:bq β a b):bq β a (qp fU k b):=by
 cases k with
 |none=>exact h
 |some k=>exact h.xX fU k 0
theorem bq.jV{β:aU}(P:Program):∀(ts:List TypeId) {a b:List PV},bq β a b->bq β a (jV P ts b)
 |[],a,b,h=>by cases b<;>exact h
 |t::ts,[],b,h=>by rw[h.cW];exact bq.nil β
 |t::ts,p::a,b,h=>by
  obtain⟨q,b',rfl,h1,h2⟩:=h.inv
  exact bq.cons (h1.b_ P t).zM (bq.jV P ts h2)
def aK.env(d:aK)(P:Program):fC:=⟨P,d.fn.ntmps,d.cU,d.loops,[],d.kU,[],[],[3000000]⟩
theorem yY(d:aK)(P:Program)(o:Oper):uQ (d.env P) o=true:=by
 unfold uQ
 cases o.dst with
 |none=>rfl
 |some k=>rfl
def dK(pl:List (Nat×cK)):Code->Prop
 | .region id ops true=>eI ops=look pl id
 | .seq a b=>dK pl a/\dK pl b
 | .cond _ a b=>dK pl a/\dK pl b
 | .block _ a=>dK pl a
 | .loop a=>dK pl a
 | .rangeFunc _ _ a b=>dK pl a/\dK pl b
 |_=>True
def No(P:Program)(β:aU):List YE->Prop
 |[]=>True
 |y::Y=>(∃(l:Nat) (p:bn),β.m y.id=some (l,0,0)/\gA β y.s ⟨p.σ,[]⟩/\dK y.d.om y.assign/\dK y.d.om y.body/\∀(vs:List PV) (μ1:Mem) (R:Option Code->Mem->Prop),μ1 l=none->
   (mZ P true y.ts λfu=>vs=fu/\V (y.d.env P) [] y.assign (HK λdb μ1=>V (y.d.env P) [] y.body (xm R) db μ1) ⟨rE p.σ y.ps fu,[]⟩ μ1)->
   bc P (.fn (.yield l) [] []) vs (μ1.set l (some (β.r y.id none))) λv μ2=>∃q μ3,v=pB q.isNone/\μ3 l=none/\μ2=μ3.set l (some (β.r y.id q))/\R q μ3)/\No P β Y
theorem No.mono{P:Program}{β γ:aU}(hl:β.le γ):∀{Y:List YE},No P β Y->No P γ Y
 |[],_=>trivial
 |y::Y,⟨⟨l,p,h1,h2,h3,h4,h5⟩,h⟩=>⟨⟨l,p,(hl _ _ h1).1,h2.mono hl,h3,h4,by rw[(hl _ _ h1).2];exact h5⟩,No.mono hl h⟩
def Gx(P:Program)(cb:Cb):Prop:=∀(bs:Bs) (Y:List YE) (f:PV) (args:List PV) (w:XW) (v:PV) (w':XW),cb bs Y f args w=.ok (v,w')->∀(β:aU) (f':PV) (cg:List PV) (μ:Mem) (K:Kq),
 Rl β f f'->bq β args cg->No P β Y->fq β (getM bs w) μ->(∀γ v' μ',β.le γ->Rl γ v v'->fq γ (getM bs w') μ'->K v' μ')->bc P f' cg μ K
def zG(P:Program)(M:Tr FuncId):Prop:=∀t g,M.get t=some g->∀v,pv P (method (P.types.size+Made.depth) t v "Compare")=some (g,v)
structure Inv(P:Program)(β:aU)(c:Cx)(o:Oper)(p:bn)(μ:Mem):Prop where
 fr:gA β c.s p
 mem:fq β (getM c.bs c.w) μ
 cb:Gx P c.cb
 M:zG P c.M
 Y:No P β c.Y
 dst:o.dst=c.dst
 ty:o.type=c.ty
def lE(β:aU)(bs:Bs)(r:XS×XW)(K:bn->Mem->Prop):Prop:=∀γ p' μ',β.le γ->gA γ r.1 p'->fq γ (getM bs r.2) μ'->K p' μ'
variable {P:Program} {β:aU} {c:Cx} {o:Oper} {p:bn} {μ:Mem} {r:XS×XW} {K:bn->Mem->Prop}
theorem Inv.Iu(I:Inv P β c o p μ){γ:aU}(hl:β.le γ){s:XS}{p1:bn}(hr:gA γ s p1){w:XW}{μ':Mem}(hm:fq γ (getM c.bs w) μ'){v v':PV}(hv:Rl γ v v')(hx:fX c.dst s w v=.ok r)(hK:lE β c.bs r K):K (aZ o p1 v') μ':=by
 obtain⟨s',w'⟩:=r
 obtain⟨rfl,h2⟩:=hr.fX hv hx
 refine hK γ _ μ' hl ?_ hm
 show gA γ s' {p1 with σ:=Hi p1.σ o.dst v'}
 rw[I.dst];exact h2
theorem Inv.fin(I:Inv P β c o p μ){v v':PV}(hv:Rl β v v')(hx:fX c.dst c.s c.w v=.ok r)(hK:lE β c.bs r K):K (aZ o p v') μ:=I.Iu (aU.le.refl β) I.fr I.mem hv hx hK
end Go.az.Xv
namespace Go.az.Xv
open Go.RowKit Go.az
theorem du{α:Type}{b:Bool}{x:O α}{r:α}(h:(bif b then x else .bad)=.ok r):b=true/\x=.ok r:=by
 cases b with
 |false=>cases h
 |true=>exact⟨rfl,h⟩
theorem Hy(β:aU)(v:Value):Rl β (ofX v) (Ma v):=by
 unfold ofX
 cases hc:Rf (Ma v)with
 |true=>exact Rl.Rf hc
 |false=>exact .au _
variable {P:Program} {β:aU} {c:Cx} {o:Oper} {p:bn} {μ:Mem} {r:XS×XW} {K:bn->Mem->Prop}
theorem Inv.nj(I:Inv P β c o p μ){t:TypeId}{cs cN:List PV}(hc:bq β cs cN)(hx:TR c.bs c.d c.fz c.dst c.s c.w c.id t cs=.ok r)(hK:lE β c.bs r K):nj (c.d.env P) false c.fz o p μ t cN K:=by
 unfold TR at hx
 unfold az.nj
 rw[I.dst]
 cases hd:c.dst with
 |none=>rw[hd]at hx;cases hx
 |some k=>
  rw[hd]at hx
  simp only at hx |-
  cases hp:bA c.d.cU k with
  |true=>
   rw[hp]at hx
   have wt:bA (c.d.env P).cU k=true:=hp
   rw[wt]
   simp only[cond_true]at hx |-
   obtain⟨h1,hx⟩:=du hx
   simp only[Bool.and_eq_true,Bool.not_eq_true']at h1
   obtain⟨s1,e1,r1⟩:=I.fr.pt k (.box k 0)
   obtain⟨s2,e2,r2⟩:=r1.JW hc k 0
   rw[e1,e2]at hx
   cases hx
   have h2:(!false&&(!jL p.D k&& !bA c.fz k&&aE cN&&Nat.ble cN.length 65536))=true:=by
    simp only[Bool.and_eq_true,Bool.not_eq_true']
    exact⟨trivial,⟨⟨by rw[<- I.fr.2];exact h1.1.1.1,h1.1.1.2⟩,hc.aE h1.1.2⟩,by rw[<- hc.1];exact h1.2⟩
   rw[h2]
   simp only[cond_true]
   refine hK β _ μ (aU.le.refl β) ⟨r2.1,?_⟩ I.mem
   show(k,cs.length)::s2.D=(k,cN.length)::p.D
   rw[hc.1,r2.2]
  |false=>
   rw[hp]at hx
   have wt:bA (c.d.env P).cU k=false:=hp
   have hq:bA (c.d.env P).cst k=false:=rfl
   rw[wt,hq]
   simp only[cond_false]at hx |-
   obtain⟨hn,w1,hx,_,hg⟩:=lN hx
   intro b hb
   have hle:=aU.oG (I.mem.fresh hn) (b,0,0) (β.r 0)
   have nG:=(aU.oU β c.id (b,0,0) (β.r 0)).1
   rw[<- hd]at hx
   exact I.Iu hle (I.fr.mono hle) (I.mem.new hn (b,0,0) (β.r 0) (o:=some (.cells t cN)) hb hg ⟨b,0,cN,nG,Mem.ai _ _ _,hc.mono hle⟩) (.raw _ _ (.ptr c.id 0 b 0 0 nG)) hx hK
theorem dX{E:fC}{q:Bool}{fz:List Nat}{o:Oper}{op:Op}(h:o.op=op)(p:bn)(μ:Mem)(K:bn->Mem->Prop):V1 E q fz o p μ K=V1 E q fz {o with op:=op} p μ K:=by subst h;rfl
theorem Inv.move(I:Inv P β c o p μ){x:Operand}(ho:o.op=.move x\/o.op=.assign x)(hx:Ps x c=.ok r)(hK:lE β c.bs r K):V1 (c.d.env P) false c.fz o p μ K:=by
 rcases ho with ho|ho<;>rw[dX ho]<;>exact I.fin ((I.fr.ev x).b_ P o.type) hx hK
theorem Inv.pick(I:Inv P β c o p μ){x y z:Operand}(ho:o.op=.pick x y z)(hx:Pr x y z c=.ok r)(hK:lE β c.bs r K):V1 (c.d.env P) false c.fz o p μ K:=by
 rw[dX ho]
 show(match cp true p.σ x with| .raw (.bool t)=>ae t (K (aZ o p (b_ P o.type (cp true p.σ y))) μ) (K (aZ o p (b_ P o.type (cp true p.σ z))) μ)|_=>False)
 unfold Pr Jt at hx
 have h:=I.fr.ev x
 generalize cp true p.σ x=q at h |-
 generalize cM c.s x=v at h hx
 split at hx
 ·rename_i t
  cases h with
  |raw _ w h=>
   cases h with
   |cl _ h=>
    cases t with
    |true=>exact I.fin ((I.fr.ev y).b_ P o.type) hx hK
    |false=>exact I.fin ((I.fr.ev z).b_ P o.type) hx hK
 ·cases hx
theorem Inv.alloc(I:Inv P β c o p μ){t:TypeId}(ho:o.op=.alloc t)(hx:HJ P t c=.ok r)(hK:lE β c.bs r K):V1 (c.d.env P) false c.fz o p μ K:=by
 rw[dX ho]
 show(match(P.info? t).bind (·.zero)with|none=>False|some z=>bif (Ma z).ok then az.nj (c.d.env P) false c.fz o p μ t (qp [3000000] o.dst (Ma z).cells) K else False)
 unfold HJ N_ at hx
 cases hz:(P.info? t).bind (·.zero)with
 |none=>rw[hz]at hx;cases hx
 |some z=>
  rw[hz]at hx
  simp only at hx |-
  obtain⟨h1,hx⟩:=du hx
  have h2:Rl β (nI P t z) (Ma z):=Hy β z
  rw[h2.ok h1]
  exact I.nj ((h2.cells h1).qp _ _) hx hK
theorem Inv.box(I:Inv P β c o p μ){t:TypeId}{x:Operand}(ho:o.op=.box t x)(hx:YI t x c=.ok r)(hK:lE β c.bs r K):V1 (c.d.env P) false c.fz o p μ K:=by
 rw[dX ho]
 show(bif (cp true p.σ x).ok then az.nj (c.d.env P) false c.fz o p μ t (qp [3000000] o.dst (b_ P t (cp true p.σ x)).cells) K else False)
 unfold YI abH at hx
 obtain⟨h1,hx⟩:=du hx
 have h2:=I.fr.ev x
 rw[h2.ok h1]
 exact I.nj (((h2.b_ P t).cells h1).qp _ _) hx hK
theorem Inv.agX(I:Inv P β c o p μ){x:Operand}(ho:o.op=.nilCheck x)(hx:YG x c=.ok r)(hK:lE β c.bs r K):V1 (c.d.env P) false c.fz o p μ K:=by
 rw[dX ho]
 show(match cp true p.σ x with
  | .box k off=>K (aZ o p (.box k off)) μ
  | .bl row off=>K (aZ o p (.bl row off)) μ
  | .raw (.pointer a)=>nn a (K (aZ o p (.raw (.pointer a))) μ)
  | .fn f a b=>qy f (K (aZ o p (.fn f a b)) μ)
  |_=>False)
 unfold YG SG at hx
 have h:=I.fr.ev x
 generalize cp true p.σ x=q at*
 generalize cM c.s x=v at*
 split at hx
 ·cases h with|box k o=>exact I.fin (.box _ _) hx hK
 ·cases h with
  |raw _ w h=>
   cases h with
   |cl _ h=>cases h
   |ptr i o b a c h=>exact I.fin (.raw _ _ (.ptr i o b a c h)) hx hK
 ·obtain⟨h1,hx⟩:=du hx
  cases h with
  |fn f g a b c d hf e1 e2 ha hc=>
   have:qy g (K (aZ o p (.fn g b d)) μ)↔K (aZ o p (.fn g b d)) μ:=by cases hf<;>exact Iff.rfl
   exact this.2 (I.fin (.fn _ _ _ _ _ _ hf e1 e2 ha hc) hx hK)
 ·cases hx
end Go.az.Xv
namespace Go.az.Xv
open Go.RowKit Go.az
theorem bq.uD{β:aU}{a b:List PV}(h:bq β a b)(g:Bool):Rl β (uD g a) (uD g b):=by
 cases g with
 |true=>exact Rl.Aw h
 |false=>
  match a,b,h with
  |[],b,h=>rw[h.cW];exact .au _
  |[p],b,h=>obtain⟨q,b',rfl,h1,h2⟩:=h.inv;rw[h2.cW];exact h1
  |p::q::a,b,h=>exact .au _
theorem Rl.ptr{β:aU}{i o:Nat}{q:PV}(h:Rl β (.raw (.pointer (some ⟨i,o,none⟩))) q):∃x,β.m i=some x/\q=.raw (.pointer (some ⟨x.1,x.2.1+o,none⟩)):=by
 cases h with
 |raw _ w h=>
  cases h with
  |cl _ h=>cases h
  |ptr i o b a c h=>exact⟨_,h,rfl⟩
theorem Rl.IS{β:aU}{k o:Nat}{q:PV}(h:Rl β (.box k o) q):q=.box k o:=by cases h;rfl
theorem Rl.int{β:aU}{k:IntKind}{n:Int}{q:PV}(h:Rl β (.raw (.int k n)) q):q=.raw (.int k n):=by
 cases h with|raw _ w h=>cases h;rfl
theorem Rl.bool{β:aU}{n:Bool}{q:PV}(h:Rl β (.raw (.bool n)) q):q=.raw (.bool n):=by
 cases h with|raw _ w h=>cases h;rfl
theorem Rl.str{β:aU}{n:ByteArray}{q:PV}(h:Rl β (.raw (.string n)) q):q=.raw (.string n):=by
 cases h with|raw _ w h=>cases h;rfl
theorem Rl.Og{β:aU}:Rl β (.aC []) (.aC []):=Rl.SX (bq.nil β)
variable {P:Program} {β:aU} {c:Cx} {o:Oper} {p:bn} {μ:Mem} {r:XS×XW} {K:bn->Mem->Prop}
theorem Inv.load(I:Inv P β c o p μ){t:TypeId}{x:Operand}(ho:o.op=.load t x)(hx:Pv P t x c=.ok r)(hK:lE β c.bs r K):V1 (c.d.env P) false c.fz o p μ K:=by
 rw[dX ho]
 show(match eE P (uQ (c.d.env P) o) t with
  |none=>False
  |some ks=>match cp true p.σ x with
   | .box k off=>match bY p.D k with
     |some m=>bif Nat.ble (off+ks.length) m&&aE (wM p.σ k off ks.length)then K (aZ o p (uD (bG P t) (wM p.σ k off ks.length))) μ else False
     |none=>False
   | .bl row off=>yU ks λvs=>aA row off ks.length=some vs/\K (aZ o p (uD (bG P t) vs)) μ
   |v=>bD v λb off=>yU ks λvs=>aN μ b off ks.length=some vs/\K (aZ o p (uD (bG P t) vs)) μ)
 rw[yY]
 unfold Pv Ju at hx
 cases hk:eE P true t with
 |none=>rw[hk]at hx;cases hx
 |some ks=>
  rw[hk]at hx
  simp only at hx |-
  have h:=I.fr.ev x
  generalize cp true p.σ x=q at h |-
  generalize cM c.s x=v at h hx
  split at hx
  ·rename_i k off
   rw[h.IS]
   simp only
   rw[<- I.fr.2]
   cases hb:bY c.s.D k with
   |none=>rw[hb]at hx;cases hx
   |some m=>
    rw[hb]at hx
    simp only at hx |-
    obtain⟨h1,hx⟩:=du hx
    simp only[Bool.and_eq_true]at h1
    have hg:=I.fr.MK k ks.length off
    have Ik:Nat.ble (off+ks.length) m=true:=h1.1
    rw[Ik,hg.aE h1.2]
    exact I.fin (hg.uD _) hx hK
  ·rename_i b off
   obtain⟨y,hy,rfl⟩:=h.ptr
   unfold ldX at hx
   split at hx
   ·rename_i vs eF
    obtain⟨h1,hx⟩:=du hx
    obtain⟨z,hz,cN,hc,hl⟩:=jq I.mem eF
    rw[hy]at hz;cases hz
    exact hl.kinds h1 (F:=λvs=>aN μ y.1 (y.2.1+off) ks.length=some vs/\K (aZ o p (uD (bG P t) vs)) μ) ⟨hc,I.fin (hl.uD _) hx hK⟩
   ·cases hx
  ·cases hx
theorem Inv.store(I:Inv P β c o p μ){t:TypeId}{x y:Operand}(ho:o.op=.store t x y)(hx:HB P t x y c=.ok r)(hK:lE β c.bs r K):V1 (c.d.env P) false c.fz o p μ K:=by
 rw[dX ho]
 show(bif (cp true p.σ y).ok&&Nat.beq (b_ P t (cp true p.σ y)).cells.length (P.cellsOf t)&&(P.info? t).isSome then match cp true p.σ x with
   | .box k off=>match bY p.D k with
     |some m=>bif Nat.ble (off+(b_ P t (cp true p.σ y)).cells.length) m&& !bA c.fz k then K {p with σ:=Hi (xz p.σ k off (b_ P t (cp true p.σ y)).cells) o.dst (.aC [])} μ else False
     |none=>False
   |v=>bif false then False else bD v λb off=>stM b off (qp [3000000] (Ol x) (b_ P t (cp true p.σ y)).cells) μ λμ'=>K (aZ o p (.aC [])) μ'
   else False)
 unfold HB NQ at hx
 obtain⟨h1,hx⟩:=du hx
 simp only[Bool.and_eq_true]at h1
 have hv:=I.fr.ev y
 have hc:=((hv.b_ P t).cells h1.1.1)
 rw[hv.ok h1.1.1,<- hc.1,h1.1.2,h1.2]
 simp only[Bool.and_self,cond_true,cond_false]
 have h:=I.fr.ev x
 generalize cp true p.σ x=q at h |-
 generalize cM c.s x=v at h hx
 split at hx
 ·rename_i k off
  rw[h.IS]
  simp only
  rw[show bY p.D k=bY c.s.D k by rw[I.fr.2]]
  cases hb:bY c.s.D k with
  |none=>rw[hb]at hx;cases hx
  |some m=>
   rw[hb]at hx
   simp only at hx |-
   obtain⟨h2,hx⟩:=du hx
   have GH:(Nat.ble (off+(cM c.s y).cells.length) m&& !bA c.fz k)=true:=h2
   rw[GH]
   simp only[cond_true]
   obtain⟨s1,e1,r1⟩:=I.fr.JW hc k off
   rw[e1]at hx
   exact I.Iu (aU.le.refl β) r1 I.mem Rl.Og hx hK
 ·rename_i b off
  obtain⟨z,hz,rfl⟩:=h.ptr
  simp only
  split at hx
  ·rename_i w1 iu
   obtain⟨z',nE,hs⟩:=Th I.mem (hc.qp [3000000] (Ol x)) iu
   rw[hz]at nE;cases nE
   exact hs _ λμ' hm=>I.Iu (aU.le.refl β) I.fr hm Rl.Og hx hK
  ·cases hx
 ·cases hx
theorem Inv.aeF(I:Inv P β c o p μ){t:TypeId}{x:Operand}{f:Nat}(ho:o.op=.fieldAddr t x f)(hx:HH P t x f c=.ok r)(hK:lE β c.bs r K):V1 (c.d.env P) false c.fz o p μ K:=by
 rw[dX ho]
 show(match vl P t f with
  |none=>False
  |some d=>match cp true p.σ x with
   | .box k off=>K (aZ o p (.box k (off+d))) μ
   | .bl row off=>K (aZ o p (.bl row (off+d))) μ
   |v=>bD v λb off=>K (aZ o p (pP b (off+d))) μ)
 unfold HH BS at hx
 cases hf:vl P t f with
 |none=>rw[hf]at hx;cases hx
 |some d=>
  rw[hf]at hx
  simp only at hx |-
  have h:=I.fr.ev x
  generalize cp true p.σ x=q at h |-
  generalize cM c.s x=v at h hx
  split at hx
  ·rw[h.IS];exact I.fin (.box _ _) hx hK
  ·rename_i b off
   obtain⟨z,hz,rfl⟩:=h.ptr
   refine I.fin (v':=pP z.1 (z.2.1+off+d)) ?_ hx hK
   have:=Rl.raw _ _ (Dq.ptr (β:=β) b (off+d) z.1 z.2.1 z.2.2 hz)
   rwa [<- Nat.add_assoc]at this
  ·cases hx
theorem UG{t:TypeId}{f:Nat}{cs cN:List PV}{v:PV}(h:bq β cs cN)(hf:FF P t f cs=some v):∃v',FF P t f cN=some v'/\Rl β v v':=by
 unfold FF at hf |-
 cases hu:P.underlying t with
 |none=>rw[hu]at hf;cases hf
 |some d=>
  rw[hu]at hf
  cases d with
  |struct fs=>
   simp only at hf |-
   cases hx:fs[f]? with
   |none=>rw[hx]at hf;cases hf
   |some x=>
    rw[hx]at hf
    simp only at hf |-
    rw[<- h.1]
    cases hb:((P.underlying x.type).isSome&&Nat.ble (x.offset+P.cellsOf x.type) cs.length)with
    |false=>rw[hb]at hf;cases hf
    |true=>
     rw[hb]at hf
     simp only[cond_true]at hf |-
     cases ha:bG P x.type with
     |true=>
      rw[ha]at hf
      simp only[cond_true,Option.some.injEq]at hf |-
      subst hf
      exact⟨_,rfl,Rl.Aw ((h.drop _).take _)⟩
     |false=>
      rw[ha]at hf
      simp only[cond_false]at hf |-
      exact h.get hf
  |_=>cases hf
theorem Inv.field(I:Inv P β c o p μ){t:TypeId}{x:Operand}{f:Nat}(ho:o.op=.field t x f)(hx:HG P t x f c=.ok r)(hK:lE β c.bs r K):V1 (c.d.env P) false c.fz o p μ K:=by
 rw[dX ho]
 show(match cp true p.σ x with
  | .agg cs=>match FF P t f cs with
    |some v=>K (aZ o p v) μ
    |none=>False
  |_=>False)
 unfold HG BR at hx
 have h:=I.fr.ev x
 generalize cp true p.σ x=q at h |-
 generalize cM c.s x=v at h hx
 split at hx
 ·rename_i cs
  cases h with
  |agg a b h1 ha=>
   simp only
   split at hx
   ·rename_i v hv
    obtain⟨v',e,hr⟩:=UG ⟨h1,ha⟩ hv
    rw[e]
    exact I.fin hr hx hK
   ·cases hx
 ·cases hx
theorem Inv.ext(I:Inv P β c o p μ){x:Operand}{i:Nat}(ho:o.op=.extract x i)(hx:YH x i c=.ok r)(hK:lE β c.bs r K):V1 (c.d.env P) false c.fz o p μ K:=by
 rw[dX ho]
 show(match cp true p.σ x with
  | .aC vs=>match vs[i]? with
    |some v=>bif v.ok then K (aZ o p v) μ else False
    |none=>False
  |_=>False)
 unfold YH SJ at hx
 have h:=I.fr.ev x
 generalize cp true p.σ x=q at h |-
 generalize cM c.s x=v at h hx
 split at hx
 ·rename_i cs
  cases h with
  |aC a b h1 ha=>
   simp only
   split at hx
   ·rename_i v hv
    obtain⟨h2,hx⟩:=du hx
    obtain⟨v',e,hr⟩:=bq.get ⟨h1,ha⟩ hv
    rw[e]
    simp only
    rw[hr.ok h2]
    exact I.fin hr hx hK
   ·cases hx
 ·cases hx
theorem Inv.un(I:Inv P β c o p μ){op:UnOp}{t:TypeId}{x:Operand}(ho:o.op=.unOp op t x)(hx:oUn op t x c=.ok r)(hK:lE β c.bs r K):V1 (c.d.env P) false c.fz o p μ K:=by
 rw[dX ho]
 have h:Rl β (cM c.s x) (cp (aT (c.d.env P)) p.σ x):=I.fr.ev x
 cases op with
 |not=>
  unfold V1
  dsimp only
  unfold oUn xUn at hx
  split at hx
  ·rename_i he hv;rw[hv]at h;rw[h.bool];exact I.fin (Rl.cl rfl) hx hK
  ·rename_i he hv;cases he
  ·cases hx
 |neg=>
  unfold V1
  dsimp only
  unfold oUn xUn at hx
  split at hx
  ·rename_i he hv;cases he
  ·rename_i he hv;rw[hv]at h;rw[h.int];exact I.fin (Rl.cl rfl) hx hK
  ·cases hx
 |_=>
  have hx:(O.bad:O (XS×XW))=.ok r:=hx
  cases hx
theorem Inv.iface(I:Inv P β c o p μ){t:TypeId}{x:Operand}(ho:o.op=.makeInterface t x)(hx:HE P t x c=.ok r)(hK:lE β c.bs r K):V1 (c.d.env P) false c.fz o p μ K:=by
 rw[dX ho]
 show(bif (cp true p.σ x).ok&&(match P.underlying t with|some (.interface _)=>false|some _=>true|none=>false)then K (aZ o p (.iface t (cp true p.σ x))) μ else False)
 unfold HE BP at hx
 obtain⟨h1,hx⟩:=du hx
 simp only[Bool.and_eq_true]at h1
 have h:=I.fr.ev x
 rw[h.ok h1.1]
 have h2:=h1.2
 cases hu:P.underlying t with
 |none=>rw[hu]at h2;cases h2
 |some d=>
  rw[hu]at h2
  cases d<;>first|(cases h2;done)|exact I.fin (.iface _ _ _ h) hx hK
theorem Inv.ag1(I:Inv P β c o p μ){f:Fn}{a b:Array Operand}(ho:o.op=.makeFunc f a b)(hx:oFn f a b c=.ok r)(hK:lE β c.bs r K):V1 (c.d.env P) false c.fz o p μ K:=by
 rw[dX ho]
 show(bif a.toList.all (λx=>(cp true p.σ x).ok)&&b.toList.all (λx=>(cp true p.σ x).ok)then
   K (aZ o p (.fn f (a.toList.map λx=>az.wk (cp true p.σ x)) (b.toList.map λx=>az.wk (cp true p.σ x)))) μ else False)
 unfold oFn xFn at hx
 have hf:RlN β f f:=by cases f<;>first|exact .func _|(cases hx;done)
 replace hx:(bif a.toList.all (λx=>(cM c.s x).ok)&&b.toList.all (λx=>(cM c.s x).ok)then fX c.dst c.s c.w (.fn f (a.toList.map λx=>cM c.s x) (b.toList.map λx=>cM c.s x))else .bad)=.ok r:=by cases hf<;>first|exact hx|(cases hx;done)
 obtain⟨h1,hx⟩:=du hx
 simp only[Bool.and_eq_true]at h1
 have d_:∀{l:List Operand},(l.all λx=>(cM c.s x).ok)=true->(l.all λx=>(cp true p.σ x).ok)=true:=λ{l} h=>by
  rw[List.all_eq_true]at h |-
  exact λx hx=>(I.fr.ev x).ok (h x hx)
 rw[d_ h1.1,d_ h1.2]
 simp only[Bool.and_self,cond_true]
 have l1:=bq.map (f:=λx=>cM c.s x) (g:=λx=>az.wk (cp true p.σ x)) a.toList λx _=>(I.fr.ev x).wk
 have l2:=bq.map (f:=λx=>cM c.s x) (g:=λx=>az.wk (cp true p.σ x)) b.toList λx _=>(I.fr.ev x).wk
 exact I.fin (.fn _ _ _ _ _ _ hf l1.1 l2.1 l1.2 l2.2) hx hK
end Go.az.Xv
namespace Go.az.Xv
open Go.RowKit Go.az
variable {P:Program} {β:aU} {c:Cx} {o:Oper} {p:bn} {μ:Mem} {r:XS×XW} {K:bn->Mem->Prop}
theorem Vu{op:BinOp}{k:IntKind}{a b:Int}{v:Value}(h:aaN op k a b=some v):NI v=true/\∀K:Value->Prop,K v->oK op k a b K:=by
 unfold aaN at h
 unfold oK
 cases op<;>simp only at h |- <;>first
  |(cases h;exact⟨rfl,λK h=>h⟩)
  |(cases h;done)
  |(cases hb:(b == 0)with
    |true=>rw[hb]at h;cases h
    |false=>rw[hb]at h;cases h;exact⟨rfl,λK h=>⟨by simpa using hb,h⟩⟩)
theorem Vt{op:BinOp}{a b:ByteArray}{v:Value}(h:aaM op a b=some v):NI v=true/\∀K:Value->Prop,K v->ru op a b K:=by
 unfold aaM at h
 unfold ru
 cases op<;>simp only at h |- <;>first
  |(cases h;exact⟨rfl,λK h=>h⟩)
  |(cases h;done)
  |(cases hb:Nat.blt (a.size+b.size) 9223372036854775808 with
    |false=>rw[hb]at h;cases h
    |true=>rw[hb]at h;cases h;exact⟨rfl,λK h=>⟨Nat.le_of_ble_eq_true hb,h⟩⟩)
theorem ql{op:BinOp}{r:Bool}{v:Value}(h:IV op r=some v):(op=.eql/\v=.bool r)\/(op=.neq/\v=.bool (!r)):=by
 unfold IV at h
 cases op<;>simp only at h<;>first
  |(cases h;exact .inl ⟨rfl,rfl⟩)
  |(cases h;exact .inr ⟨rfl,rfl⟩)
  |(cases h;done)
theorem Vs{op:BinOp}{t:TypeId}{a b a' b' v:Value}(h:IU P op t a b=some v)(ha:Dq β a a')(hb:Dq β b b'):NI v=true/\∀K:Value->Prop,K v->iX P op t a' b' K:=by
 unfold IU at h
 split at h
 ·cases ha with|cl _ ha=>
  cases hb with|cl _ hb=>
  unfold iX
  simp only
  rename_i k x k' y
  cases hk:decide (k=k')with
  |false=>rw[hk]at h;cases h
  |true=>rw[hk]at h;exact Vu h
 ·cases ha with|cl _ ha=>
  cases hb with|cl _ hb=>exact Vt h
 ·cases ha with|cl _ ha=>
  cases hb with|cl _ hb=>
  unfold iX
  simp only
  cases hu:P.underlying t with
  |none=>rw[hu]at h;cases h
  |some d=>
   rw[hu]at h
   cases d<;>first|(cases h;done)|(rcases ql h with⟨rfl,rfl⟩|⟨rfl,rfl⟩<;>exact⟨rfl,λK h=>h⟩)
 ·cases ha with|cl _ ha=>cases ha
 ·cases hb with|cl _ hb=>
  unfold iX
  have hn:∀{x y:Option Addr},Dq β (.pointer x) (.pointer y)->y.isNone=x.isNone:=λ{x y} h=>by cases h<;>rfl
  have hp:∃y,a'=.pointer y:=by cases ha<;>exact⟨_,rfl⟩
  obtain⟨y,rfl⟩:=hp
  simp only
  rw[hn ha]
  cases hu:P.underlying t with
  |none=>rw[hu]at h;cases h
  |some d=>
   rw[hu]at h
   cases d<;>first|(cases h;done)|(rcases ql h with⟨rfl,rfl⟩|⟨rfl,rfl⟩<;>exact⟨rfl,λK h=>h⟩)
 ·cases hb with|cl _ hb=>
  unfold iX
  rename_i x n k n' k'
  have hp:∃y n1 k1,a'=.slice y n1 k1/\y.isNone=x.isNone:=by cases ha<;>exact⟨_,_,_,rfl,rfl⟩
  obtain⟨y,n1,k1,rfl,hn⟩:=hp
  simp only
  rw[hn]
  cases hu:P.underlying t with
  |none=>rw[hu]at h;cases h
  |some d=>
   rw[hu]at h
   cases d<;>first|(cases h;done)|(rcases ql h with⟨rfl,rfl⟩|⟨rfl,rfl⟩<;>exact⟨rfl,λK h=>h⟩)
 ·cases ha with|cl _ ha=>cases ha
 ·cases h
theorem xA:∀{a:List PV} {xs:List Value},eH a=some xs->a=xs.map PV.raw
 |[],xs,h=>by simp only[eH,Option.some.injEq]at h;subst h;rfl
 | .raw v::ps,xs,h=>by
   simp only[eH]at h
   split at h
   ·rename_i vs hv;cases h;rw[xA hv];rfl
   ·cases h
 | .list .. ::_,xs,h=>by cases h
 | .bl .. ::_,xs,h=>by cases h
 | .fn .. ::_,xs,h=>by cases h
 | .agg .. ::_,xs,h=>by cases h
 | .aC .. ::_,xs,h=>by cases h
 | .iface .. ::_,xs,h=>by cases h
 | .box .. ::_,xs,h=>by cases h
 | .au::_,xs,h=>by cases h
theorem Lr(xs:List Value):eH (xs.map PV.raw)=some xs:=by
 induction xs with
 |nil=>rfl
 |cons x xs ih=>simp only[List.map_cons,eH,ih]
theorem ZS:∀{ks:List K1} {xs ys:List Value} {r:Bool} {a b:List PV},eqs ks xs ys=some r->bq β (xs.map PV.raw) a->bq β (ys.map PV.raw) b->a=xs.map PV.raw/\b=ys.map PV.raw:=by
 intro ks xs ys
 fun_induction eqs ks xs ys with
 |case1=>intro r a b h ha hb;exact⟨ha.cW,hb.cW⟩
 |case2 _ ks k x xs k' y ys hd r' hr ih=>
  intro r a b h ha hb
  obtain⟨q,a',rfl,h1,h2⟩:=ha.inv
  obtain⟨q',b',rfl,h3,h4⟩:=hb.inv
  obtain⟨e1,e2⟩:=ih hr h2 h4
  rw[e1,e2,h1.int,h3.int];exact⟨rfl,rfl⟩
 |case3=>intro r a b h;cases h
 |case4=>intro r a b h;simp_all
 |case5 ks x xs y ys r' hr ih=>
  intro r a b h ha hb
  obtain⟨q,a',rfl,h1,h2⟩:=ha.inv
  obtain⟨q',b',rfl,h3,h4⟩:=hb.inv
  obtain⟨e1,e2⟩:=ih hr h2 h4
  rw[e1,e2,h1.bool,h3.bool];exact⟨rfl,rfl⟩
 |case6=>intro r a b h;cases h
 |case7 ks x xs y ys r' hr ih=>
  intro r a b h ha hb
  obtain⟨q,a',rfl,h1,h2⟩:=ha.inv
  obtain⟨q',b',rfl,h3,h4⟩:=hb.inv
  obtain⟨e1,e2⟩:=ih hr h2 h4
  rw[e1,e2,h1.str,h3.str];exact⟨rfl,rfl⟩
 |case8=>intro r a b h;cases h
 |case9=>intro r a b h;cases h
theorem RH{op:BinOp}{t:TypeId}{x y x' y':PV}{v:Value}(h:KZ P op t x y=some v)(hx:Rl β x x')(hy:Rl β y y'):NI v=true/\∀K:PV->Prop,K (.raw v)->zj P op t x' y' K:=by
 unfold KZ at h
 split at h
 ·cases hx with|raw _ w hx=>
  cases hy with|raw _ w' hy=>
  obtain⟨h1,h2⟩:=Vs h hx hy
  exact⟨h1,λK hK=>h2 (λv=>K (.raw v)) hK⟩
 ·cases hx with|agg a a' e1 ha=>
  cases hy with|agg b b' e2 hb=>
  split at h
  ·rename_i xs ys hxs hys
   have ea:=xA hxs
   have eb:=xA hys
   subst ea;subst eb
   have h0:=h
   unfold IU aeX at h
   simp only at h
   split at h
   ·cases h
   ·rename_i ks kq
    cases hc:((Nat.beq ks.length xs.toArray.size&&Nat.beq ks.length ys.toArray.size)&& !P.eqGuardType P.depth t&&bG P t)with
    |false=>rw[hc]at h;cases h
    |true=>
     rw[hc]at h
     simp only[cond_true]at h
     split at h
     ·rename_i rr Ms
      obtain⟨f1,f2⟩:=ZS (a:=a') (b:=b') Ms ⟨e1,ha⟩ ⟨e2,hb⟩
      subst f1;subst f2
      refine⟨by rcases ql h with⟨rfl,rfl⟩|⟨rfl,rfl⟩<;>rfl,λK hK=>?_⟩
      unfold zj
      simp only[Lr]
      unfold iX
      simp only[kq]
      rw[hc]
      simp only[cond_true]
      have akB:eqs ks xs ys=some rr:=Ms
      rw[akB]
      rcases ql h with⟨rfl,rfl⟩|⟨rfl,rfl⟩<;>exact hK
     ·cases h
  ·cases h
 ·cases hx with|fn f g a b cc d hf=>
  cases hy with|raw _ w' hy=>
  cases hy
  unfold IU at h
  simp only at h
  unfold zj iX
  simp only
  cases hu:P.underlying t with
  |none=>rw[hu]at h;cases h
  |some d=>
   rw[hu]at h
   cases d<;>first|(cases h;done)|(rcases ql h with⟨rfl,rfl⟩|⟨rfl,rfl⟩<;>exact⟨rfl,λK hK=>hK⟩)
 ·cases h
theorem Inv.bin(I:Inv P β c o p μ){op:BinOp}{t ty:TypeId}{x y:Operand}(ho:o.op=.binOp op t x y ty)(hx:Lk P c.dst c.s c.w op t (cM c.s x) (cM c.s y)=.ok r)(hK:lE β c.bs r K):V1 (c.d.env P) false c.fz o p μ K:=by
 rw[dX ho]
 show zj P op t (cp true p.σ x) (cp true p.σ y) λv=>K (aZ o p v) μ
 unfold Lk at hx
 split at hx
 ·rename_i v hv
  obtain⟨h1,h2⟩:=RH hv (I.fr.ev x) (I.fr.ev y)
  exact h2 _ (I.fin (Rl.cl h1) hx hK)
 ·cases hx
end Go.az.Xv
namespace Go.az.Xv
open Go.RowKit Go.az
variable {P:Program} {β:aU} {c:Cx} {o:Oper} {p:bn} {μ:Mem} {r:XS×XW} {K:bn->Mem->Prop}
theorem Rl.VV{i o n C:Nat}{q:PV}(h:Rl β (.raw (.slice (some ⟨i,o,none⟩) n C)) q):(∃y C',β.m i=some y/\q=.raw (.slice (some ⟨y.1,y.2.1+o,none⟩) n C'))\/(n=0/\∃a,q=.raw (.slice (some a) 0 0)):=by
 cases h with
 |raw _ w h=>
  cases h with
  |cl _ h=>cases h
  |sl i o n k b a c h hk=>exact .inl ⟨_,_,h,rfl⟩
  |vs i o n l b a c h hl=>exact .inl ⟨_,_,h,rfl⟩
  |ve i o l b a o' h ho=>exact .inr ⟨rfl,_,rfl⟩
theorem Rl.wS{t:TypeId}{v v':PV}(h:Rl β v v')(hk:kVX P t v=true){F:PV->Prop}(hF:F v'):wS P true t F:=by
 unfold kVX at hk
 unfold az.wS
 cases hs:eE P true t with
 |none=>rw[hs]at hk;cases hk
 |some ks=>
  rw[hs]at hk
  simp only at hk |-
  cases ha:bG P t with
  |true=>
   rw[ha]at hk
   simp only[cond_true]at hk
   split at hk
   ·cases h with
    |agg a b h1 h2=>exact bq.kinds ⟨h1,h2⟩ hk (F:=λvs=>F (az.uD true vs)) hF
   ·cases hk
  |false=>
   rw[ha]at hk
   simp only[cond_false]at hk
   split at hk
   ·exact h.kind hk (F:=λv=>F (az.uD false [v])) hF
   ·cases hk
theorem bq.mZ:∀{ts:List TypeId} {a b:List PV},bq β a b->PY P ts a=true->∀{F:List PV->Prop},F b->mZ P true ts F
 |[],[],b,h,hk,F,hF=>by rw[h.cW]at hF;exact hF
 |[],_::_,b,h,hk,F,hF=>by cases hk
 |_::_,[],b,h,hk,F,hF=>by cases hk
 |t::ts,p::a,b,h,hk,F,hF=>by
  obtain⟨q,b',rfl,h1,h2⟩:=h.inv
  simp only[PY,Bool.and_eq_true]at hk
  exact h1.wS hk.1 (F:=λv=>az.mZ P true ts λvs=>F (v::vs)) (bq.mZ h2 hk.2 (F:=λvs=>F (q::vs)) hF)
theorem Rl.yT{t:TypeId}{v v':PV}(h:Rl β v v')(hk:kRX P t v=true){F:PV->Prop}(hF:F v'):yT P true t F:=by
 unfold kRX at hk
 unfold az.yT
 cases hs:P.underlying t with
 |none=>rw[hs]at hk;exact h.wS hk hF
 |some d=>
  rw[hs]at hk
  cases d<;>first
   |exact h.wS hk hF
   |(simp only at hk |-
     split at hk
     ·cases h with
      |aC a b h1 h2=>exact bq.mZ ⟨h1,h2⟩ hk (F:=λvs=>F (.aC vs)) hF
     ·cases hk)
theorem UP{e:TypeId}{off:Nat}{cs cN:List PV}{v:PV}(h:bq β cs cN)(hf:Aq P e off cs=some v):∃v',Aq P e off cN=some v'/\Rl β v v':=by
 unfold Aq at hf |-
 rw[<- h.1]
 cases hb:((P.underlying e).isSome&&Nat.ble (off+P.cellsOf e) cs.length)with
 |false=>rw[hb]at hf;cases hf
 |true=>
  rw[hb]at hf
  simp only[cond_true]at hf |-
  cases ha:bG P e with
  |true=>
   rw[ha]at hf
   simp only[cond_true,Option.some.injEq]at hf |-
   subst hf
   exact⟨_,rfl,Rl.Aw ((h.drop _).take _)⟩
  |false=>
   rw[ha]at hf
   simp only[cond_false]at hf |-
   exact h.get hf
theorem Inv.ady(I:Inv P β c o p μ){t:TypeId}{x i:Operand}(ho:o.op=.indexAddr t x i)(hx:HF P t x i c=.ok r)(hK:lE β c.bs r K):V1 (c.d.env P) false c.fz o p μ K:=by
 rw[dX ho]
 have h1:Rl β (cM c.s x) (cp (aT (c.d.env P)) p.σ x):=I.fr.ev x
 have h2:Rl β (cM c.s i) (cp (aT (c.d.env P)) p.σ i):=I.fr.ev i
 unfold V1
 dsimp only
 unfold HF BQ at hx
 split at hx
 ·rename_i e b off len cap k j hu hv hi
  obtain⟨h3,hx⟩:=du hx
  simp only[Bool.and_eq_true,decide_eq_true_eq]at h3
  rw[hv]at h1;rw[hi]at h2
  have dZ:(c.d.env P).P.underlying t=some (.slice e):=hu
  rcases h1.VV with⟨y,C',hy,e1⟩|⟨rfl,a,e1⟩
  ·rw[dZ,e1,h2.int]
   simp only
   have h4:((c.d.env P).P.info? e).isSome=true:=h3.1.1
   rw[h4]
   refine⟨h3.1.2,h3.2,I.fin (v':=pP y.1 (y.2.1+off+j.toNat*P.cellsOf e)) ?_ hx hK⟩
   have:=Rl.raw _ _ (Dq.ptr (β:=β) b (off+j.toNat*P.cellsOf e) y.1 y.2.1 y.2.2 hy)
   rwa [<- Nat.add_assoc]at this
  ·omega
 ·rename_i len e k off k' j hu hv hi
  obtain⟨h3,hx⟩:=du hx
  simp only[Bool.and_eq_true,decide_eq_true_eq]at h3
  rw[hv]at h1;rw[hi]at h2
  have dZ:(c.d.env P).P.underlying t=some (.array len e):=hu
  rw[dZ,h1.IS,h2.int]
  simp only
  have h4:(decide (0<=j)&&decide (j<len)&&((c.d.env P).P.info? e).isSome)=true:=by
   simp only[Bool.and_eq_true,decide_eq_true_eq];exact h3
  rw[h4]
  exact I.fin (.box _ _) hx hK
 ·cases hx
theorem Inv.index(I:Inv P β c o p μ){t:TypeId}{x i:Operand}(ho:o.op=.index t x i)(hx:HD P t x i c=.ok r)(hK:lE β c.bs r K):V1 (c.d.env P) false c.fz o p μ K:=by
 rw[dX ho]
 have h1:Rl β (cM c.s x) (cp (aT (c.d.env P)) p.σ x):=I.fr.ev x
 have h2:Rl β (cM c.s i) (cp (aT (c.d.env P)) p.σ i):=I.fr.ev i
 unfold V1
 dsimp only
 unfold HD BO at hx
 split at hx
 ·rename_i b k j hu hv hi
  obtain⟨h3,hx⟩:=du hx
  simp only[decide_eq_true_eq]at h3
  rw[hv]at h1;rw[hi]at h2
  have dZ:(c.d.env P).P.underlying t=some .string:=hu
  rw[dZ,h1.str,h2.int]
  simp only
  split at hx
  ·rename_i ch hch
   exact⟨h3,ch,hch,I.fin (Rl.cl rfl) hx hK⟩
  ·cases hx
 ·rename_i len e cs k j hu hv hi
  obtain⟨h3,hx⟩:=du hx
  simp only[Bool.and_eq_true,decide_eq_true_eq]at h3
  rw[hv]at h1;rw[hi]at h2
  have dZ:(c.d.env P).P.underlying t=some (.array len e):=hu
  generalize cp (aT (c.d.env P)) p.σ x=q at h1 |-
  cases h1 with
  |agg a b e1 ha=>
   rw[dZ,h2.int]
   simp only
   have h4:((c.d.env P).P.info? e).isSome=true:=h3.1.1
   rw[h4]
   split at hx
   ·rename_i v hv
    obtain⟨h5,hx⟩:=du hx
    obtain⟨v',e5,hr⟩:=UP ⟨e1,ha⟩ hv
    refine⟨h3.1.2,h3.2,?_⟩
    have e6:uQ (c.d.env P) {o with op:=Op.index t x i}=true:=yY _ _ _
    rw[e6]
    exact hr.wS h5 (F:=λv=>Aq P e (j.toNat*P.cellsOf e) b=some v/\K (aZ {o with op:=Op.index t x i} p v) μ) ⟨e5,I.fin hr hx hK⟩
   ·cases hx
 ·cases hx
end Go.az.Xv
namespace Go.az.Xv
open Go.RowKit Go.az
variable {P:Program} {β:aU} {c:Cx} {o:Oper} {p:bn} {μ:Mem} {r:XS×XW} {K:bn->Mem->Prop}
def Nv(β:aU)(a b:List (Nat×PV)):Prop:=a.length=b.length/\∀(i:Nat) x y,a[i]?=some x->b[i]?=some y->x.1=y.1/\x.2.ok=true/\Rl β x.2 y.2
theorem Nv.cW{b:List (Nat×PV)}(h:Nv β [] b):b=[]:=List.eq_nil_of_length_eq_zero h.1.symm
theorem Nv.inv{x:Nat×PV}{a b:List (Nat×PV)}(h:Nv β (x::a) b):∃q b',b=(x.1,q)::b'/\x.2.ok=true/\Rl β x.2 q/\Nv β a b':=by
 cases b with
 |nil=>exact absurd h.1 (by simp)
 |cons y b=>
  obtain⟨h1,h2,h3⟩:=h.2 0 x y rfl rfl
  refine⟨y.2,b,?_,h2,h3,by simpa using h.1,λi x' y' hx hy=>h.2 (i+1) x' y' (by simpa using hx) (by simpa using hy)⟩
  rw[h1]
theorem Nv.of{s:XS}(hr:gA β s p)(f:Nat×Operand->PV->PV)(hf:∀x v v',Rl β v v'->Rl β v (f x v')):∀{ps:List (Nat×Operand)},(ps.all λx=>(cM s x.2).ok)=true->Nv β (ps.map λx=>(x.1,cM s x.2)) (ps.map λx=>(x.1,f x (cp true p.σ x.2)))
 |[],h=>⟨rfl,by simp⟩
 |x::ps,h=>by
  simp only[List.all_cons,Bool.and_eq_true]at h
  obtain⟨h1,h2⟩:=Nv.of hr f hf h.2
  refine⟨by simp,λi y z hy hz=>?_⟩
  cases i with
  |zero=>
   simp only[List.map_cons,List.getElem?_cons_zero,Option.some.injEq]at hy hz
   subst hy;subst hz
   exact⟨rfl,h.1,hf x _ _ (hr.ev x.2)⟩
  |succ i=>
   simp only[List.map_cons,List.getElem?_cons_succ]at hy hz
   exact h2 i y z hy hz
theorem Rl.XE{p q:PV}(h:Rl β p q):Rl β (az.cu p) (az.cu q):=by
 have:az.cu p=p:=by cases h<;>rfl
 rw[this];exact h.cu
theorem bq.XE{a b:List PV}(h:bq β a b):bq β (a.map az.cu) (b.map az.cu):=by
 induction a generalizing b with
 |nil=>rw[h.cW];exact bq.nil β
 |cons p a ih=>obtain⟨q,b',rfl,h1,h2⟩:=h.inv;exact bq.cons h1.XE (ih h2)
theorem Gd{fs:Array Field}:∀{ps Sm:List (Nat×PV)} {cs cN:List PV} {rs:List PV},Nv β ps Sm->bq β cs cN->rf P fs ps cs=some rs->∃rs',rf P fs Sm cN=some rs'/\bq β rs rs'
 |[],Sm,cs,cN,rs,hp,hc,h=>by
  rw[hp.cW]
  simp only[rf,Option.some.injEq]at h
  subst h;exact⟨_,rfl,hc⟩
 |x::ps,Sm,cs,cN,rs,hp,hc,h=>by
  obtain⟨i,v⟩:=x
  obtain⟨q,b',rfl,h1,h2,h3⟩:=hp.inv
  have Bo:=h2.cells h1
  simp only[rf]at h |-
  cases hf:fs[i]? with
  |none=>rw[hf]at h;cases h
  |some f=>
   rw[hf]at h
   simp only at h |-
   rw[<- Bo.1,<- hc.1]
   cases hb:(Nat.beq v.cells.length (P.cellsOf f.type)&&Nat.ble (f.offset+v.cells.length) cs.length&&(P.info? f.type).isSome)with
   |false=>rw[hb]at h;cases h
   |true=>
    rw[hb]at h
    simp only[cond_true]at h |-
    exact Gd h3 (((hc.take _).append Bo).append (hc.drop _)) h
theorem zq{size:Nat}:∀{i:Nat} {ps Sm:List (Nat×PV)} {rows:Lq},Nv β ps Sm->jh size i ps=some rows->∃nZ,jh size i Sm=some nZ/\bq β rows.flatten nZ.flatten
 |i,[],Sm,rows,hp,h=>by
  rw[hp.cW]
  simp only[jh,Option.some.injEq]at h
  subst h;exact⟨_,rfl,bq.nil β⟩
 |i,x::ps,Sm,rows,hp,h=>by
  obtain⟨j,v⟩:=x
  obtain⟨q,b',rfl,h1,h2,h3⟩:=hp.inv
  have Bo:=h2.cells h1
  simp only[jh]at h |-
  rw[<- Bo.1]
  cases hb:(Nat.beq i j&&Nat.beq v.cells.length size)with
  |false=>rw[hb]at h;cases h
  |true=>
   rw[hb]at h
   simp only[cond_true]at h |-
   cases hl:jh size (i+1) ps with
   |none=>rw[hl]at h;cases h
   |some l=>
    rw[hl]at h
    simp only[Option.some.injEq]at h
    subst h
    obtain⟨l',e,hr⟩:=zq h3 hl
    rw[e]
    exact⟨_,rfl,by simpa using Bo.XE.append hr⟩
theorem Vp{t:TypeId}{ps:List (Nat×Operand)}{s:XS}(hr:gA β s p)(hk:(ps.all λx=>(cM s x.2).ok)=true){rs:List PV}(h:aaL P t (ps.map λx=>(x.1,cM s x.2))=some rs):∃rs',Nf true P t (ps.map λx=>(x.1,cp true p.σ x.2))=some rs'/\bq β rs rs':=by
 unfold aaL at h
 unfold Nf
 split at h
 ·rename_i z fs hz hu
  rw[hz,hu]
  simp only
  cases hb:((nI P t z).ok&&bG P t&&fs.toList.all λf=>(P.info? f.type).isSome)with
  |false=>rw[hb]at h;cases h
  |true=>
   rw[hb]at h
   simp only[cond_true]at h
   simp only[Bool.and_eq_true]at hb
   have hz:Rl β (nI P t z) (hU true P t z):=Hy β z
   rw[hz.ok hb.1.1,hb.1.2,hb.2]
   simp only[Bool.and_self,cond_true]
   split at h
   ·rename_i cs qx
    rw[qx]at hz
    generalize hU true P t z=q at hz |-
    cases hz with
    |agg a b e1 ha=>
     simp only[List.map_map]
     exact Gd (Nv.of hr (λx v=>match fs[x.1]? with|some f=>b_ P f.type v|none=>v) (λx v v' hv=>by
      show Rl β v (match fs[x.1]? with|some f=>b_ P f.type v'|none=>v')
      split
      ·exact hv.b_ P _
      ·exact hv) hk) ⟨e1,ha⟩ h
   ·cases h
 ·rename_i z len e hz hu
  rw[hz,hu]
  simp only
  simp only[List.length_map]at h |-
  cases hb:((P.info? e).isSome&&Nat.beq ps.length len&&Nat.beq z.cells.size (len*P.cellsOf e))with
  |false=>rw[hb]at h;cases h
  |true=>
   rw[hb]at h
   simp only[cond_true]at h |-
   split at h
   ·rename_i rows wq
    cases h
    obtain⟨nZ,e',hl⟩:=zq (Nv.of hr (λx v=>b_ P e v) (λx v v' hv=>hv.b_ P _) hk) wq
    simp only[List.map_map]
    have e2:jh (P.cellsOf e) 0 (ps.map ((λp=>(p.1,b_ P e p.2))∘λx=>(x.1,cp true p.σ x.2)))=some nZ:=e'
    rw[e2]
    exact⟨_,rfl,hl⟩
   ·cases h
 ·cases h
theorem Inv.build(I:Inv P β c o p μ){t:TypeId}{ps:Array (Nat×Operand)}(ho:o.op=.build t ps)(hx:HI P t ps c=.ok r)(hK:lE β c.bs r K):V1 (c.d.env P) false c.fz o p μ K:=by
 rw[dX ho]
 show(bif ps.toList.all λx=>(cp true p.σ x.2).ok then match Nf true P t (ps.toList.map λx=>(x.1,cp true p.σ x.2))with
   |some vs=>K (aZ o p (.agg vs)) μ
   |none=>False else False)
 unfold HI BT at hx
 obtain⟨h1,hx⟩:=du hx
 have h2:(ps.toList.all λx=>(cp true p.σ x.2).ok)=true:=by
  rw[List.all_eq_true]at h1 |-
  exact λx hx=>(I.fr.ev x.2).ok (h1 x hx)
 rw[h2]
 simp only[cond_true]
 split at hx
 ·rename_i vs vc
  obtain⟨fu,e,hl⟩:=Vp I.fr h1 vc
  rw[e]
  exact I.fin (Rl.Aw hl) hx hK
 ·cases hx
end Go.az.Xv
namespace Go.az.Xv
open Go.RowKit Go.az
variable {P:Program} {β:aU} {c:Cx} {o:Oper} {p:bn} {μ:Mem} {r:XS×XW} {K:bn->Mem->Prop}
theorem Inv.adh(I:Inv P β c o p μ){t:TypeId}{cs cN:List PV}(hc:bq β cs cN){v:PV}{v':Nat->PV}(hv:∀γ b,γ.m c.id=some (b,0,0)->β.le γ->Rl γ v (v' b))
  (hx:ca c.bs c.w c.id (.cells t cs) (λw=>fX c.dst c.s w v)=.ok r) (hK:lE β c.bs r K) (b:Nat) (hb:μ b=none):K (aZ o p (v' b)) (μ.set b (some (.cells t cN))):=by
 obtain⟨hn,w1,hx,_,hg⟩:=lN hx
 have hle:=aU.oG (I.mem.fresh hn) (b,0,0) (β.r 0)
 have nG:=(aU.oU β c.id (b,0,0) (β.r 0)).1
 exact I.Iu hle (I.fr.mono hle) (I.mem.new hn (b,0,0) (β.r 0) (o:=some (.cells t cN)) hb hg ⟨b,0,cN,nG,Mem.ai _ _ _,hc.mono hle⟩) (hv _ b nG hle) hx hK
theorem Nk(I:Inv P β c o p μ){ps:List (Nat×Operand)}(h1:(ps.all λx=>(cM c.s x.2).ok)=true):(ps.all λx=>(cp true p.σ x.2).ok)=true:=by
 rw[List.all_eq_true]at h1 |-
 exact λx hx=>(I.fr.ev x.2).ok (h1 x hx)
theorem Inv.VV(I:Inv P β c o p μ){t:TypeId}{n:Nat}{ps:Array (Nat×Operand)}(ho:o.op=.buildSlice t n ps)(hx:YF P t n ps c=.ok r)(hK:lE β c.bs r K):V1 (c.d.env P) false c.fz o p μ K:=by
 rw[dX ho]
 show(bif (ps.toList.all λx=>(cp true p.σ x.2).ok)&&Nat.beq ps.toList.length n then match oW P t with
   |none=>False
   |some e=>match jh (P.cellsOf e) 0 (ps.toList.map λx=>(x.1,b_ P e (cp true p.σ x.2)))with
    |some rows=>bif Nat.ble rows.flatten.length 65536&&((P.info? e).bind (·.zero)).isSome&& !Nat.beq (P.cellsOf e) 0 then
      (bif true then ∀b,μ b=none->K (aZ o p (.raw (.slice (some ⟨b,0,none⟩) n n))) (μ.set b (some (.cells e (qp [3000000] o.dst rows.flatten))))
      else K (aZ o p (.list (P.cellsOf e) .nr rows)) μ)else False
    |none=>False else False)
 unfold YF abF at hx
 obtain⟨h1,hx⟩:=du hx
 simp only[Bool.and_eq_true]at h1
 rw[Nk I h1.1,h1.2]
 simp only[Bool.and_self,cond_true]
 split at hx
 ·cases hx
 ·rename_i e he
  rw[he]
  simp only
  split at hx
  ·rename_i rows wq
   obtain⟨nZ,e',hl⟩:=zq (Nv.of I.fr (λx v=>b_ P e v) (λx v v' hv=>hv.b_ P _) h1.1) wq
   rw[e']
   simp only
   obtain⟨h2,hx⟩:=du hx
   simp only[Bool.and_eq_true]at h2
   rw[<- hl.1,h2.1.1.1,h2.1.1.2,h2.1.2]
   simp only[Bool.and_self,cond_true]
   exact I.adh (v':=λb=>.raw (.slice (some ⟨b,0,none⟩) n n)) (hl.qp _ _) (λγ b h _=>.raw _ _ (.sl c.id 0 n n b 0 0 h (Nat.le_of_ble_eq_true h2.2))) hx hK
  ·cases hx
theorem bq.acQ{a b:List PV}(h:bq β a b):∀n:Nat,bq β (List.replicate n a).flatten (List.replicate n b).flatten
 |0=>bq.nil β
 |n+1=>by rw[List.replicate_succ,List.replicate_succ,List.flatten_cons,List.flatten_cons];exact h.append (bq.acQ h n)
theorem Inv.ag0(I:Inv P β c o p μ){t:TypeId}{x y:Operand}(ho:o.op=.makeSlice t x y)(hx:Pu P t x y c=.ok r)(hK:lE β c.bs r K):V1 (c.d.env P) false c.fz o p μ K:=by
 rw[dX ho]
 have h1:Rl β (cM c.s x) (cp (aT (c.d.env P)) p.σ x):=I.fr.ev x
 have h2:Rl β (cM c.s y) (cp (aT (c.d.env P)) p.σ y):=I.fr.ev y
 unfold V1
 dsimp only
 unfold Pu VJ at hx
 split at hx
 ·rename_i e ki i kj j hu hv hi
  rw[hv]at h1;rw[hi]at h2
  have dZ:(c.d.env P).P.underlying t=some (.slice e):=hu
  rw[dZ,h1.int,h2.int]
  simp only
  cases hf:P.info? e with
  |none=>rw[hf]at hx;cases hx
  |some inf=>
   have qd:(c.d.env P).P.info? e=some inf:=hf
   rw[hf]at hx;rw[qd]
   simp only[Option.map_some]at hx |-
   cases hz:inf.zero with
   |none=>rw[hz]at hx;cases hx
   |some z=>
    rw[hz]at hx
    simp only[Option.map_some]at hx |-
    obtain⟨h3,hx⟩:=du hx
    simp only[Bool.and_eq_true,decide_eq_true_eq]at h3
    obtain⟨⟨⟨⟨⟨⟨g1,g2⟩,g3⟩,g4⟩,g5⟩,g6⟩,g7⟩:=h3
    have hz:Rl β (nI P e z) (hU (aT (c.d.env P)) (c.d.env P).P e z):=Hy β z
    have hzk:(nI P e z).ok=true:=by
     cases hq:nI P e z<;>rw[hq]at g3<;>first|rfl|(cases g3;done)
    have Bo:=hz.cells hzk
    rw[<- Bo.1,g1,g2,Bo.aE g3]
    simp only[Bool.and_self,cond_true]
    refine⟨g4,g5,g6,Nat.le_of_ble_eq_true g7,?_⟩
    exact I.adh (v':=λb=>.raw (.slice (some ⟨b,0,none⟩) i.toNat j.toNat)) (Bo.acQ _) (λγ b h _=>.raw _ _ (.sl c.id 0 i.toNat j.toNat b 0 0 h (by show j.toNat<4611686018427387904;omega))) hx hK
 ·cases hx
end Go.az.Xv
namespace Go.az.Xv
open Go.RowKit Go.az
variable {P:Program} {β:aU} {c:Cx} {o:Oper} {p:bn} {μ:Mem} {r:XS×XW} {K:bn->Mem->Prop}
theorem sg{E:fC}{fz:List Nat}{o:Oper}{op:Op}(h:o.op=op)(p:bn)(μ:Mem)(K:bn->Mem->Prop):Nu E fz o p μ K=Nu E fz {o with op:=op} p μ K:=by subst h;rfl
theorem Inv.aeI(I:Inv P β c o p μ){a b:TypeId}{x:Operand}(ho:o.op=.convert a b x){v:Value}(hv:cM c.s x=.raw v)(h1:NI v=true)(hx:(match pv P (convert a b v)with
   |some v'=>bif plain v'&&one v'&&NI v' then fX c.dst c.s c.w (.raw v')else .bad
   |none=>.bad)=.ok r) (hK:lE β c.bs r K):cp true p.σ x=.raw v/\V1 (c.d.env P) false c.fz o p μ K:=by
 have h:Rl β (cM c.s x) (cp true p.σ x):=I.fr.ev x
 rw[hv]at h
 have e:cp true p.σ x=.raw v:=by
  generalize cp true p.σ x=q at h |-
  cases h with
  |raw _ w h=>cases h with
   |cl _ h=>rfl
   |_=>cases h1
 refine⟨e,?_⟩
 rw[dX ho]
 show(match cp true p.σ x with
  | .raw v=>match pv P (convert a b v)with
    |some v'=>bif plain v'&&one v' then K (aZ o p (.raw v')) μ else False
    |none=>False
  |_=>False)
 rw[e]
 simp only
 split at hx
 ·rename_i v' hv'
  obtain⟨h2,hx⟩:=du hx
  simp only[Bool.and_eq_true]at h2
  simp only[h2.1.1,h2.1.2,Bool.and_self,cond_true]
  exact I.fin (Rl.cl h2.2) hx hK
 ·cases hx
theorem BI:∀{a b:List PV} {ns:List Int},bq β a b->mI (a.map λc=>[c])=some ns->b=a
 |[],b,ns,h,_=>h.cW
 |p::a,b,ns,h,hb=>by
  obtain⟨q,b',rfl,h1,h2⟩:=h.inv
  simp only[List.map_cons]at hb
  unfold mI at hb
  split at hb
  ·rename_i e;cases e
  ·rename_i n l e
   simp only[List.cons.injEq,and_true]at e
   obtain⟨rfl,rfl⟩:=e
   split at hb
   ·rename_i ms hm
    rw[h1.int,BI h2 hm]
   ·cases hb
  ·cases hb
theorem Inv.conv(I:Inv P β c o p μ){a b:TypeId}{x:Operand}(ho:o.op=.convert a b x)(hx:Pw P a b x c=.ok r)(hK:lE β c.bs r K):(c.gd=true->V1 (c.d.env P) false c.fz o p μ K)/\(c.gd=false->Nu (c.d.env P) c.fz o p μ K):=by
 unfold Pw Jv at hx
 have h:Rl β (cM c.s x) (cp true p.σ x):=I.fr.ev x
 split at hx
 ·rename_i bb off n k hv
  obtain⟨h1,hx⟩:=du hx
  simp only[Bool.and_eq_true,Bool.not_eq_true']at h1
  refine⟨λhg=>(by rw[h1.1.1]at hg;cases hg),λ_=>?_⟩
  rw[sg ho]
  rw[hv]at h
  split at hx
  ·rename_i cs qx
   split at hx
   ·rename_i ns NB
    rcases h.VV with⟨y,C',hy,e1⟩|⟨rfl,_,_⟩
    ·obtain⟨z,hz,cN,hc,hl⟩:=jq I.mem qx
     rw[hy]at hz;cases hz
     have e2:=BI hl NB
     subst e2
     show(match cp true p.σ x with
      | .list sz _ rows=>mi P a b sz rows λs=>K (aZ o p (pS s)) μ
      | .raw (.slice (some ⟨b',off,none⟩) n _)=>∃cs,aN μ b' off n=some cs/\mi P a b 1 (cs.map λc=>[c]) λs=>K (aZ o p (pS s)) μ
      |_=>V1 (c.d.env P) false c.fz {o with op:=.convert a b x} p μ K)
     rw[e1]
     refine⟨cN,hc,?_⟩
     unfold mi
     have bm:(cN.map λc=>[c]).isEmpty=false:=by
      cases cN with
      |nil=>
       exfalso
       have h2:1<=n:=Nat.le_of_ble_eq_true h1.2
       unfold aN at hc
       split at hc
       ·split at hc
        ·have:=congrArg (λx=>(x.getD []).length) hc;simp at this;omega
        ·cases hc
       ·split at hc
        ·have:=congrArg (λx=>(x.getD []).length) hc;simp at this;omega
        ·cases hc
       ·cases hc
      |cons a l=>rfl
     rw[h1.1.2,bm,NB]
     exact I.fin (Rl.cl rfl) hx hK
    ·exact absurd (Nat.le_of_ble_eq_true h1.2) (by omega)
   ·cases hx
  ·cases hx
 ·rename_i v NB hv
  obtain⟨h1,hx⟩:=du hx
  obtain⟨e,hV⟩:=I.aeI ho hv h1 hx hK
  refine⟨λ_=>hV,λ_=>?_⟩
  rw[sg ho]
  show(match cp true p.σ x with
   | .list sz _ rows=>mi P a b sz rows λs=>K (aZ o p (pS s)) μ
   | .raw (.slice (some ⟨b',off,none⟩) n _)=>∃cs,aN μ b' off n=some cs/\mi P a b 1 (cs.map λc=>[c]) λs=>K (aZ o p (pS s)) μ
   |_=>V1 (c.d.env P) false c.fz {o with op:=.convert a b x} p μ K)
  rw[e]
  rw[dX ho]at hV
  cases v with
  |slice ad n k=>
   cases ad with
   |none=>exact hV
   |some ad=>cases h1
  |_=>exact hV
 ·cases hx
theorem yF{s:XS}(hr:gA β s p):∀{xs:List Operand} {q:IntKind×List Int},jM (cM s) xs=some q->jM (cp true p.σ) xs=some q
 |[],q,h=>by cases h
 |[x],q,h=>by
  have hx:=hr.ev x
  simp only[jM]at h |-
  split at h
  ·rename_i k i he
   rw[he]at hx
   rw[hx.int];exact h
  ·cases h
 |x::y::l,q,h=>by
  have hx:=hr.ev x
  simp only[jM]at h |-
  split at h
  ·rename_i k i k' is he hl
   rw[he]at hx
   rw[hx.int]
   have:=yF (xs:=y::l) hr hl
   simp only[this]
   exact h
  ·cases h
end Go.az.Xv
namespace Go.az.Xv
open Go.RowKit Go.az
variable {P:Program} {β:aU} {c:Cx} {o:Oper} {p:bn} {μ:Mem} {r:XS×XW} {K:bn->Mem->Prop}
def Lj(P:Program):Prop:=∀{β:aU} {bs:Bs} {w w':XW} {μ:Mem} {e:TypeId} {x y x' y' v:PV} {id:Nat},aaR bs P e x y w id=.ok (v,w')->Rl β x x'->Rl β y y'->fq β (getM bs w) μ->
 ∀K:Kq,(∀γ v' μ',β.le γ->Rl γ v v'->fq γ (getM bs w') μ'->K v' μ')->BH P false e x' y' μ K
theorem Inv.built(hA:Lj P)(I:Inv P β c o p μ){b:Builtin}{args:List Operand}{ts:List TypeId}(hx:Dk c.bs P c.dst c.s c.w c.id b args ts=.ok r)(hK:lE β c.bs r K):Xd (c.d.env P) false o p μ b args ts K:=by
 unfold Dk at hx
 split at hx
 ·rename_i x t
  have h1:Rl β (cM c.s x) (cp (aT (c.d.env P)) p.σ x):=I.fr.ev x
  unfold Xd
  dsimp only
  split at hx
  ·rename_i e a n k hu hv
   rw[hv]at h1
   have dZ:(c.d.env P).P.underlying t=some (.slice e):=hu
   have e1:∃a' k',cp (aT (c.d.env P)) p.σ x=.raw (.slice a' n k'):=by
    generalize cp (aT (c.d.env P)) p.σ x=q at h1 |-
    cases h1 with
    |raw _ w h=>cases h<;>exact⟨_,_,rfl⟩
   obtain⟨a',k',e1⟩:=e1
   rw[dZ,e1]
   exact I.fin (Rl.cl rfl) hx hK
  ·rename_i s hu hv
   rw[hv]at h1
   have dZ:(c.d.env P).P.underlying t=some .string:=hu
   rw[dZ,h1.str]
   exact I.fin (Rl.cl rfl) hx hK
  ·rename_i n e hu
   obtain⟨h2,hx⟩:=du hx
   have dZ:(c.d.env P).P.underlying t=some (.array n e):=hu
   rw[dZ]
   simp only
   rw[h1.ok h2]
   exact I.fin (Rl.cl rfl) hx hK
  ·cases hx
 ·rename_i x y t t'
  have h1:Rl β (cM c.s x) (cp (aT (c.d.env P)) p.σ x):=I.fr.ev x
  have h2:Rl β (cM c.s y) (cp (aT (c.d.env P)) p.σ y):=I.fr.ev y
  unfold Xd
  dsimp only
  split at hx
  ·rename_i e e' hu Mo
   have dZ:(c.d.env P).P.underlying t=some (.slice e):=hu
   have Y_:(c.d.env P).P.underlying t'=some (.slice e'):=Mo
   rw[dZ,Y_]
   simp only
   split at hx
   ·rename_i v w1 Ux
    exact hA Ux (h1.nN _) h2 I.mem _ λγ v' μ' hl hv hm=>I.Iu hl (I.fr.mono hl) hm hv hx hK
   ·cases hx
  ·cases hx
 ·rename_i xs ts'
  unfold Xd
  dsimp only
  split at hx
  ·rename_i k i is hi
   have:=yF I.fr hi
   have this:jM (cp (aT (c.d.env P)) p.σ) args=some (k,i::is):=this
   rw[this]
   exact I.fin (Rl.cl rfl) hx hK
  ·cases hx
 ·rename_i xs ts'
  unfold Xd
  dsimp only
  split at hx
  ·rename_i k i is hi
   have:=yF I.fr hi
   have this:jM (cp (aT (c.d.env P)) p.σ) args=some (k,i::is):=this
   rw[this]
   exact I.fin (Rl.cl rfl) hx hK
  ·cases hx
 ·cases hx
theorem EW{bs:Bs}{w:XW}{b:Nat}(h:fq β (getM bs w) μ)(hl:Kk bs w b=true):∃x e,getM bs w b=some e/\e.live=true/\β.m b=some x/\Kl μ x.1:=by
 unfold Kk at hl
 split at hl
 ·rename_i T q qs hg
  obtain⟨b',k,cN,h1,h2,h3⟩:=h.obj b _ hg
  refine⟨_,_,hg,rfl,h1,T,cN,h2,?_⟩
  rintro rfl
  exact absurd h3.1 (by simp)
 ·rename_i T sz q qs hg
  obtain⟨b',a,k,cN,h1,h2,h3,h4,h5⟩:=h.obj b _ hg
  refine⟨_,_,hg,rfl,h1,T,cN,h2,?_⟩
  rintro rfl
  exact absurd h5.1 (by simp)
 ·cases hl
end Go.az.Xv
namespace Go.az.Xv
open Go.RowKit Go.az
variable {P:Program} {β:aU} {c:Cx} {o:Oper} {p:bn} {μ:Mem} {r:XS×XW} {K:bn->Mem->Prop}
theorem EY{x x':PV}(h:Rl β x x')(hp:x≠ .au):lQ x'=lQ x:=by
 cases h with
 |raw v w h=>cases h<;>rfl
 |au p=>exact absurd rfl hp
 |_=>rfl
theorem RJ{op:BinOp}{t:TypeId}{x y:PV}{v:Value}(h:KZ P op t x y=some v):x≠ .au/\y≠ .au:=by
 constructor
 ·rintro rfl;cases h
 ·rintro rfl;cases x<;>cases h
theorem Inv.al3(I:Inv P β c o p μ){op:BinOp}{t ty:TypeId}{x y:Operand}(ho:o.op=.binOp op t x y ty)(hx:YJ P op t x y ty c=.ok r)(hK:lE β c.bs r K):(c.gd=true->V1 (c.d.env P) false c.fz o p μ K)/\(c.gd=false->Nu (c.d.env P) c.fz o p μ K):=by
 unfold YJ Jx at hx
 have h1:Rl β (cM c.s x) (cp (aT (c.d.env P)) p.σ x):=I.fr.ev x
 have h2:Rl β (cM c.s y) (cp (aT (c.d.env P)) p.σ y):=I.fr.ev y
 cases hb:(!c.gd&&PZ y&&Qa op&&lQ (cM c.s x)&&lQ (cM c.s y))with
 |true=>
  rw[hb]at hx
  simp only[cond_true]at hx
  simp only[Bool.and_eq_true,Bool.not_eq_true']at hb
  obtain⟨⟨⟨⟨g1,g2⟩,g3⟩,g4⟩,g5⟩:=hb
  refine⟨λhg=>(by rw[g1]at hg;cases hg),λ_=>?_⟩
  cases y with
  |tmp y=>
   cases op with
   |eql=>
    rw[sg ho]
    unfold Nu
    dsimp only
    unfold NS at hx
    split at hx
    ·rename_i e b off b' Cu hu hv hv'
     obtain⟨h3,hx⟩:=du hx
     simp only[Bool.and_eq_true]at h3
     rw[hv]at h1;rw[hv']at h2
     obtain⟨z,hz,e1⟩:=h1.ptr
     obtain⟨z',nE,e2⟩:=h2.ptr
     rw[e1,e2]
     have dZ:(c.d.env P).P.underlying t=some (.pointer e):=hu
     rw[dZ]
     have h4:sized (c.d.env P).P e=true:=h3.1.1
     simp only[lQ,Bool.and_self,cond_true,h4]
     obtain⟨q,eo,k1,k2,k3,k4⟩:=EW I.mem h3.1.2
     obtain⟨q',eo',l1,l2,l3,l4⟩:=EW I.mem h3.2
     rw[hz]at k3;cases k3
     rw[nE]at l3;cases l3
     refine⟨k4,l4,?_⟩
     have:(Nat.beq z.1 z'.1&&Nat.beq (z.2.1+off) (z'.2.1+Cu))=(Nat.beq b b'&&Nat.beq off Cu):=by
      by_cases hbb:b=b'
      ·subst hbb
       rw[hz]at nE;cases nE
       rw[Nat.beq_refl,Nat.beq_refl]
       by_cases ho:off=Cu
       ·subst ho;rw[Nat.beq_refl,Nat.beq_refl]
       ·have w1:Nat.beq off Cu=false:=by cases hq:Nat.beq off Cu with
         |false=>rfl
         |true=>exact absurd (beq_iff.1 hq) ho
        have w2:Nat.beq (z.2.1+off) (z.2.1+Cu)=false:=by cases hq:Nat.beq (z.2.1+off) (z.2.1+Cu)with
         |false=>rfl
         |true=>exact absurd (beq_iff.1 hq) (by omega)
        rw[w1,w2]
      ·have w1:Nat.beq b b'=false:=by cases hq:Nat.beq b b' with
        |false=>rfl
        |true=>exact absurd (beq_iff.1 hq) hbb
       have w2:Nat.beq z.1 z'.1=false:=by cases hq:Nat.beq z.1 z'.1 with
        |false=>rfl
        |true=>exact absurd (I.mem.inj b b' eo eo' z z' k1 l1 k2 l2 hz nE (beq_iff.1 hq)) hbb
       rw[w1,w2];rfl
     rw[this]
     exact I.fin (Rl.cl rfl) hx hK
    ·cases hx
   |_=>cases g3
  |_=>cases g2
 |false=>
  rw[hb]at hx
  simp only[cond_false]at hx
  have hV:=I.bin ho hx hK
  refine⟨λ_=>hV,λhg=>?_⟩
  have hnp:cM c.s x≠ .au/\cM c.s y≠ .au:=by
   unfold Lk at hx
   split at hx
   ·rename_i v hv;exact RJ hv
   ·cases hx
  cases y with
  |tmp y=>
   cases op with
   |eql=>
    rw[sg ho]
    rw[dX ho]at hV
    unfold Nu
    dsimp only
    have e1:=EY h1 hnp.1
    have e2:=EY h2 hnp.2
    rw[e1,e2]
    have e3:(lQ (cM c.s x)&&lQ (cM c.s (.tmp y)))=false:=by
     rw[hg]at hb
     simpa[PZ,Qa]using hb
    rw[e3]
    exact hV
   |_=>rw[sg ho];rw[dX ho]at hV;exact hV
  |_=>rw[sg ho];rw[dX ho]at hV;cases op<;>exact hV
end Go.az.Xv
namespace Go.az.Xv
open Go.RowKit Go.az
variable {P:Program} {β:aU} {c:Cx} {o:Oper} {p:bn} {μ:Mem} {r:XS×XW} {K:bn->Mem->Prop}
theorem Inv.WT(I:Inv P β c o p μ){o':Oper}(hd:o'.dst=o.dst)(ht:o'.type=o.type){f f':PV}{args cg:List PV}(hf:Rl β f f')(ha:bq β args cg)(hx:KN c.bs P c.cb c.Y c.dst c.ty c.s c.w f args=.ok r)(hK:lE β c.bs r K):
  bc P f' cg μ λv μ'=>yT P (uQ (c.d.env P) o') o'.type λv'=>v=v'/\K (aZ o' p v') μ':=by
 unfold KN at hx
 split at hx
 ·rename_i v w1 MF
  obtain⟨h1,hx⟩:=du hx
  rw[yY,ht,I.ty]
  refine I.cb _ _ _ _ _ _ _ MF β f' cg μ _ hf ha I.Y I.mem λγ v' μ' hl hv hm=>?_
  refine hv.yT h1 (F:=λv''=>v'=v''/\K (aZ o' p v'') μ') ⟨rfl,?_⟩
  have:=I.Iu hl (I.fr.mono hl) hm hv hx hK
  have e:aZ o' p v'=aZ o p v':=by unfold aZ;rw[hd]
  rw[e];exact this
 ·cases hx
theorem Inv.call(hA:Lj P)(I:Inv P β c o p μ){e:Call}(ho:o.op=.call e)(hx:Px P e c=.ok r)(hK:lE β c.bs r K):V1 (c.d.env P) false c.fz o p μ K:=by
 rw[dX ho]
 have d_:∀{l:List Operand},(l.all λx=>(cM c.s x).ok)=true->(l.all λx=>(cp true p.σ x).ok)=true:=λ{l} h=>by
  rw[List.all_eq_true]at h |-
  exact λx hx=>(I.fr.ev x).ok (h x hx)
 have jP:bq β (e.args.toList.map (cM c.s)) (jV P e.argTypes.toList (e.args.toList.map (cp true p.σ))):=(bq.map e.args.toList λx _=>I.fr.ev x).jV P _
 unfold Px Jw at hx
 obtain⟨UY,args,Xc⟩:∃UY args Xc,e.callee=UY/\e.args=args/\e.argTypes=Xc:=⟨_,_,_,rfl,rfl,rfl⟩
 unfold V1
 dsimp only
 cases hc:e.callee with
 |builtin b=>
  rw[hc]at hx
  simp only at hx |-
  have I':Inv P β c {o with op:=.call e} p μ:=⟨I.fr,I.mem,I.cb,I.M,I.Y,I.dst,I.ty⟩
  exact I'.built hA hx hK
 |value f=>
  rw[hc]at hx
  simp only at hx |-
  obtain⟨h1,hx⟩:=du hx
  have h2:(e.args.toList.all λx=>(cp (aT (c.d.env P)) p.σ x).ok)=true:=d_ h1
  rw[h2]
  exact I.WT (o':={o with op:=.call e}) rfl rfl (I.fr.ev f) jP hx hK
 |invoke x name=>
  rw[hc]at hx
  simp only at hx |-
  replace hx:=du hx
  obtain⟨h1,hx⟩:=hx
  simp only[Bool.and_eq_true]at h1
  have hn:name= "Compare":=by simpa using h1.2
  subst hn
  have h2:(e.args.toList.all λx=>(cp (aT (c.d.env P)) p.σ x).ok)=true:=d_ h1.1
  rw[h2]
  simp only[cond_true]
  have h:Rl β (cM c.s x) (cp (aT (c.d.env P)) p.σ x):=I.fr.ev x
  generalize cp (aT (c.d.env P)) p.σ x=q at h |-
  generalize cM c.s x=v at h hx
  split at hx
  ·rename_i t w
   cases h with
   |iface _ _ q h=>
    simp only
    split at hx
    ·rename_i g hg
     have hM:=I.M t g hg
     have hM':∀v,pv (c.d.env P).P (method ((c.d.env P).P.types.size+Made.depth) t v "Compare")=some (g,v):=hM
     rw[hM' undef]
     refine⟨hM',?_⟩
     exact I.WT (o':={o with op:=.call e}) rfl rfl (.fn _ _ [] [] [] [] (.func g) rfl rfl (by simp) (by simp)) (bq.cons h.zM jP) hx hK
    ·cases hx
  ·cases hx
end Go.az.Xv
namespace Go.az.Xv
open Go.RowKit Go.az
variable {P:Program} {β:aU} {c:Cx} {o:Oper} {p:bn} {μ:Mem} {r:XS×XW} {K:bn->Mem->Prop}
theorem tx{s:XS}(hr:gA β s p){x:Option Operand}{d i:Int}(h:bT (cM s) x d=some i):bT (cp true p.σ) x d=some i:=by
 cases x with
 |none=>exact h
 |some x=>
  have hx:=hr.ev x
  unfold bT at h |-
  simp only at h |-
  split at h
  ·rename_i k j he
   rw[he]at hx
   rw[hx.int];exact h
  ·cases h
theorem SK{size:Nat}{dst:Option Nat}{s:XS}{w:XW}{a:Option Addr}{len cap:Nat}{l h:Int}{m:Option Int}{q:PV}(hq:Rl β (.raw (.slice a len cap)) q){r:XS×XW}(hx:NY size dst s w a len cap l h m=.ok r):
  0<=l/\l<=h/\∃a' Dd,q=.raw (.slice a' len Dd)/\fW a'/\h<=m.getD Dd/\m.getD Dd<=Dd/\∃v,fX dst s w v=.ok r/\Rl β v (.raw (.slice (sX a' l.toNat (m.getD Dd).toNat size) (h.toNat-l.toNat) ((m.getD Dd).toNat-l.toNat))):=by
 unfold NY at hx
 cases hb:(decide (0<=l)&&decide (l<=h))with
 |false=>rw[hb]at hx;cases hx
 |true=>
  rw[hb]at hx
  simp only[Bool.not_true,cond_false]at hx
  simp only[Bool.and_eq_true,decide_eq_true_eq]at hb
  refine⟨hb.1,hb.2,?_⟩
  cases hc:Nat.blt cap VC with
  |true=>
   rw[hc]at hx
   simp only[cond_true]at hx
   obtain⟨h2,hx⟩:=du hx
   simp only[Bool.and_eq_true,decide_eq_true_eq]at h2
   have bB:cap<VC:=Nat.le_of_ble_eq_true hc
   cases hq with
   |raw _ w' hq=>
    cases hq with
    |cl _ gu=>
     cases a with
     |some a=>cases gu
     |none=>
      refine⟨none,cap,rfl,λx hx=>(by cases hx),h2.1,h2.2,_,hx,Rl.cl ?_⟩
      unfold sX;split<;>rfl
    |sl i o n k b ba cc hm hk=>
     refine⟨_,cap,rfl,λx hx=>(by cases hx;rfl),h2.1,h2.2,_,hx,?_⟩
     unfold sX
     have eQ:(m.getD (cap:Int)).toNat-l.toNat<VC:=by omega
     by_cases uE:(m.getD (cap:Int)).toNat=l.toNat
     ·rw[if_pos uE,if_pos uE];exact .raw _ _ (.sl i o _ _ b ba cc hm eQ)
     ·rw[if_neg uE,if_neg uE]
      simp only[Option.map_some]
      rw[Nat.add_assoc]
      exact .raw _ _ (.sl i (o+l.toNat*size) _ _ b ba cc hm eQ)
    |vs i o n l0 b ba cc hm hl=>exact absurd bB (by omega)
    |ve i o l0 b ba o' hm ho=>exact absurd bB (by omega)
  |false=>
   rw[hc]at hx
   simp only[cond_false]at hx
   obtain⟨h2,hx⟩:=du hx
   simp only[decide_eq_true_eq]at h2
   split at hx
   ·rename_i bb off
    cases hq with
    |raw _ w' hq=>
     cases hq with
     |cl _ gu=>cases gu
     |sl i o n k b ba cc hm hk=>
      exfalso
      have:Nat.blt cap VC=true:=Nat.ble_eq_true_of_le hk
      rw[this]at hc;cases hc
     |vs i o n l0 b ba cc hm hl=>
      split at hx
      ·refine⟨_,cc-l0,rfl,λx hx=>(by cases hx;rfl),by simp only[Option.getD_none];omega,by simp,_,hx,?_⟩
       simp only[Option.getD_none,Int.toNat_natCast]
       unfold sX
       by_cases uE:cc-l0=l.toNat
       ·rw[if_pos uE]
        have e1:h.toNat-l.toNat=0:=by omega
        have e2:cc-l0-l.toNat=0:=by omega
        have e3:cc=l0+l.toNat:=by omega
        rw[e1,e2,Nat.add_assoc]
        exact .raw _ _ (.ve _ _ (l0+l.toNat) b ba _ (by rw[<- e3];exact hm) (by omega))
       ·rw[if_neg uE]
        simp only[Option.map_some]
        rw[Nat.add_assoc VC,Nat.add_assoc ba,Nat.sub_sub]
        exact .raw _ _ (.vs _ _ _ (l0+l.toNat) b ba cc hm (by omega))
      ·rename_i m
       obtain⟨h3,hx⟩:=du hx
       simp only[Bool.and_eq_true,decide_eq_true_eq]at h3
       have hlen:len<VC:=Nat.le_of_ble_eq_true h3.2
       refine⟨_,cc-l0,rfl,λx hx=>(by cases hx;rfl),h3.1.1.1,by simp only[Option.getD_some];omega,_,hx,?_⟩
       simp only[Option.getD_some]
       unfold sX
       have eQ:m.toNat-l.toNat<VC:=by omega
       by_cases uE:m.toNat=l.toNat
       ·rw[if_pos uE,if_pos uE];exact .raw _ _ (.sl _ _ _ _ b ba cc hm eQ)
       ·rw[if_neg uE,if_neg uE]
        simp only[Option.map_some]
        rw[Nat.add_assoc]
        exact .raw _ _ (.sl _ (bb+l.toNat*size) _ _ b ba cc hm eQ)
     |ve i o l0 b ba o' hm ho=>
      split at hx
      ·have e0:l.toNat=0:=by omega
       have e1:h.toNat=0:=by omega
       refine⟨_,0,rfl,λx hx=>(by cases hx;rfl),by simp only[Option.getD_none];omega,by simp,_,hx,?_⟩
       simp only[Option.getD_none,e0,e1,sX,Int.toNat_natCast,Nat.zero_mul,Nat.add_zero,Nat.sub_self,if_true]
       exact .raw _ _ (.ve _ _ l0 b ba o' hm ho)
      ·obtain⟨h3,hx⟩:=du hx
       simp only[Bool.and_eq_true]at h3
       exact absurd (Nat.le_of_ble_eq_true h3.1.2) (by omega)
   ·cases hx
theorem Inv.slice(I:Inv P β c o p μ){t:TypeId}{x:Operand}{lo hi mx:Option Operand}(ho:o.op=.slice t x lo hi mx)(hx:HC P t x lo hi mx c=.ok r)(hK:lE β c.bs r K):V1 (c.d.env P) false c.fz o p μ K:=by
 rw[dX ho]
 have h1:Rl β (cM c.s x) (cp (aT (c.d.env P)) p.σ x):=I.fr.ev x
 unfold V1
 dsimp only
 unfold HC BN at hx
 split at hx
 ·rename_i e a len cap hu hv
  have dZ:(c.d.env P).P.underlying t=some (.slice e):=hu
  rw[hv]at h1
  split at hx
  ·rename_i l h m el eh em
   cases hb:((mx.isSome&&hi.isNone)||(P.info? e).isNone)with
   |true=>rw[hb]at hx;cases hx
   |false=>
    rw[hb]at hx
    simp only[cond_false]at hx
    obtain⟨g1,g2,a',Dd,eq,g3,g4,g5,v,hx,hv'⟩:=SK h1 hx
    rw[dZ,eq]
    simp only
    have el':bT (cp (aT (c.d.env P)) p.σ) lo 0=some l:=tx I.fr el
    have eh':bT (cp (aT (c.d.env P)) p.σ) hi len=some h:=tx I.fr eh
    have em':bT (cp (aT (c.d.env P)) p.σ) mx Dd=some (m.getD Dd):=by
     cases mx with
     |none=>cases em;rfl
     |some y=>
      simp only[Option.map_eq_some_iff]at em
      obtain⟨m',e1,rfl⟩:=em
      have:=tx I.fr e1
      unfold bT at this |-
      exact this
    rw[el',eh',em']
    simp only
    have jO:((mx.isSome&&hi.isNone)||((c.d.env P).P.info? e).isNone)=false:=hb
    rw[jO]
    exact⟨g3,g1,g2,g4,g5,I.fin hv' hx hK⟩
  ·cases hx
 ·rename_i b hu hv
  have dZ:(c.d.env P).P.underlying t=some .string:=hu
  rw[hv]at h1
  rw[dZ,h1.str]
  simp only
  cases mx with
  |some y=>cases hx
  |none=>
   simp only at hx |-
   split at hx
   ·rename_i l h el eh
    obtain⟨h2,hx⟩:=du hx
    simp only[Bool.and_eq_true,decide_eq_true_eq]at h2
    have el':bT (cp (aT (c.d.env P)) p.σ) lo 0=some l:=tx I.fr el
    have eh':bT (cp (aT (c.d.env P)) p.σ) hi b.size=some h:=tx I.fr eh
    rw[el',eh']
    exact⟨h2.1.1,h2.1.2,h2.2,I.fin (Rl.cl rfl) hx hK⟩
   ·cases hx
 ·cases hx
end Go.az.Xv
namespace Go.az.Xv
open Go.RowKit Go.az
variable {P:Program} {β:aU} {μ:Mem}
theorem Er{b o o':Nat}{cs:List PV}(h:aN μ b o 0=some cs)(ho:o'<=o):aN μ b o' 0=some []:=by
 unfold aN at h |-
 split at h
 ·rename_i T ds hb
  split at h
  ·rw[if_pos (by omega)];simp
  ·cases h
 ·rename_i T ds hb
  split at h
  ·rw[if_pos (by omega)];simp
  ·cases h
 ·cases h
theorem PB{bs:Bs}{size:Nat}{w:XW}{y y':PV}{new:List PV}(h:EO bs size w y=some new)(hy:Rl β y y')(hm:fq β (getM bs w) μ){F:Nat->List PV->Prop}(hF:∀Mc,bq β new Mc->F (jv y) Mc):Ab size μ y' F:=by
 unfold EO at h
 split at h
 ·rename_i b o m cap
  obtain⟨z,hz,cN,hc,hl⟩:=jq hm h
  cases hy with
  |raw _ w' hy=>
   cases hy with
   |cl _ gu=>cases gu
   |sl i o n k b a c hb hk=>rw[hz]at hb;cases hb;exact⟨cN,hc,hF _ hl⟩
   |vs i o n l b a c hb hk=>rw[hz]at hb;cases hb;exact⟨cN,hc,hF _ hl⟩
   |ve i o l b a o' hb ho=>
    rw[hz]at hb;cases hb
    rw[Nat.zero_mul]at hc
    have h0:=Er hc (o':=o') ho
    refine⟨[],by rw[Nat.zero_mul];exact h0,hF [] ?_⟩
    have:new=[]:=by
     have h1:cN.length=0:=by
      have h2:=Er hc (Nat.le_refl _)
      rw[hc]at h2;cases h2;rfl
     exact List.eq_nil_of_length_eq_zero (by rw[hl.1,h1])
    rw[this];exact bq.nil β
 ·rename_i cap
  simp only[Option.some.injEq]at h
  subst h
  cases hy with
  |raw _ w' hy=>
   cases hy with
   |cl _ gu=>exact hF [] (bq.nil β)
 ·cases h
theorem Rl.room{a:Option Addr}{n k:Nat}{q:PV}(h:Rl β (.raw (.slice a n k)) q)(hn:n<=k):∃a' k',q=.raw (.slice a' n k')/\n<=k':=by
 cases h with
 |raw _ w h=>
  cases h with
  |cl _ h=>exact⟨_,_,rfl,hn⟩
  |sl i o n k b a c h hk=>exact⟨_,_,rfl,hn⟩
  |vs i o n l b a c h hl=>exact⟨_,_,rfl,by omega⟩
  |ve i o l b a o' h ho=>exact⟨_,_,rfl,Nat.le_refl _⟩
theorem fq.move{g g':Nat->Option XO}(h:fq β g μ){i id:Nat}{e e':XO}{x:Nat×Nat×Nat}(hi:g i=some e)(hv:e.live=true)(hx:β.m i=some x)(hn:g id=none)(a k:Nat){o:Option Ob}
  (hg:∀j,g' j=if j=id then some e' else if j=i then some .dead else g j) (ho:qA (β.ext id (x.1,a,k) (β.r 0)) (μ.set x.1 o) id e'):fq (β.ext id (x.1,a,k) (β.r 0)) g' (μ.set x.1 o):=by
 have hle:=aU.oG (h.fresh hn) (x.1,a,k) (β.r 0)
 have ED:∀{j:Nat} {y:Nat×Nat×Nat},(β.ext id (x.1,a,k) (β.r 0)).m j=some y->j≠id->β.m j=some y:=λ{j y} hy bm=>by simpa[aU.ext,bm]using hy
 have ne:∀{j:Nat} {f:XO} {y:Nat×Nat×Nat},g j=some f->f.live=true->β.m j=some y->j≠i->y.1≠x.1:=λ{j f y} hf v hy hj e0=>hj (h.inj j i f e y x hf hi v hv hy hx e0)
 refine⟨λj y hy=>?_,λj f hf=>?_,λj l f f' y z hf qd v v' hy hz HY=>?_⟩
 ·rw[hg];split
  ·simp
  ·rename_i bm
   split
   ·simp
   ·exact h.UR j y (ED hy bm)
 ·rw[hg]at hf;split at hf
  ·rename_i e0;subst e0;cases hf;exact ho
  ·split at hf
   ·cases hf;trivial
   ·rename_i h1 h2
    exact((h.obj j f hf).set (b:=x.1) (o:=o) λv y hy=>ne hf v hy h2).mono hle
 ·have cl:∀{j:Nat} {f:XO} {y:Nat×Nat×Nat},g' j=some f->f.live=true->(β.ext id (x.1,a,k) (β.r 0)).m j=some y->(j=id/\y.1=x.1)\/(j≠id/\j≠i/\g j=some f/\β.m j=some y):=by
   intro j f y hf v hy
   rw[hg]at hf
   split at hf
   ·rename_i e0;subst e0
    rw[(aU.oU β j (x.1,a,k) (β.r 0)).1]at hy;cases hy
    exact .inl ⟨rfl,rfl⟩
   ·split at hf
    ·cases hf;cases v
    ·rename_i h1 h2;exact .inr ⟨h1,h2,hf,ED hy h1⟩
  rcases cl hf v hy with⟨rfl,e1⟩|⟨n1,n2,k1,k2⟩<;>rcases cl qd v' hz with⟨rfl,e2⟩|⟨m1,m2,l1,l2⟩
  ·rfl
  ·exact absurd (by rw[<- HY,e1]) (ne l1 v' l2 m2)
  ·exact absurd (by rw[HY,e2]) (ne k1 v k2 n2)
  ·exact h.inj j l f f' y z k1 l1 v v' k2 l2 HY
end Go.az.Xv
namespace Go.az.Xv
open Go.RowKit Go.az
variable {P:Program} {β:aU} {μ:Mem}
theorem JS{bs:Bs}{w:XW}{b o n:Nat}{cs:List PV}(h:Eo bs w b o n=some cs):cs.length=n:=by
 unfold Eo at h
 split at h
 ·rename_i T ds hg
  cases hb:Nat.ble (Nat.add o n) ds.length with
  |false=>rw[hb]at h;cases h
  |true=>
   rw[hb]at h
   simp only[cond_true,Option.some.injEq]at h
   have:o+n<=ds.length:=Nat.le_of_ble_eq_true hb
   subst h;simp;omega
 ·rename_i T sz ds hg
  cases hb:Nat.ble (Nat.add o n) ds.length with
  |false=>rw[hb]at h;cases h
  |true=>
   rw[hb]at h
   simp only[cond_true,Option.some.injEq]at h
   have:o+n<=ds.length:=Nat.le_of_ble_eq_true hb
   subst h;simp;omega
 ·cases h
theorem Mb{bs:Bs}{size:Nat}{w:XW}{y:PV}{new:List PV}(h:EO bs size w y=some new):new.length=jv y*size:=by
 unfold EO at h
 split at h
 ·exact JS h
 ·cases h;simp[jv]
 ·cases h
theorem Cy{bs:Bs}{w w':XW}{id size:Nat}{e:TypeId}{known PQ:List PV}{n:Nat}{v v':PV}(hn:ca bs w id (.vec e size known) (λw=>(.ok (v,w):O (PV×XW)))=.ok (v',w'))(hm:fq β (getM bs w) μ)(hk:bq β known PQ)(hlen:known.length=n*size)
  (hv:v=.raw (.slice (some ⟨id,0,none⟩) n VC)) {K:Kq} (hK:∀γ q μ',β.le γ->Rl γ v' q->fq γ (getM bs w') μ'->K q μ') (b c:Nat) (hb:μ b=none) (hc:n<=c):
  K (.raw (.slice (some ⟨b,0,none⟩) n c)) (μ.set b (some (.cells e (PQ++List.replicate ((c-n)*size) .au)))):=by
 obtain⟨h1,w1,h2,_,hg⟩:=lN hn
 cases h2
 have hle:=aU.oG (hm.fresh h1) (b,0,c) (β.r 0)
 have nG:=(aU.oU β id (b,0,c) (β.r 0)).1
 have hmul:(c-n)*size+n*size=c*size:=by rw[<- Nat.add_mul];congr 1;omega
 refine hK _ _ _ hle ?_ (hm.new h1 (b,0,c) (β.r 0) hb hg ⟨b,0,c,_,nG,Mem.ai _ _ _,?_,?_,?_⟩)
 ·rw[hv];exact .raw _ _ (.vs id 0 n 0 b 0 c nG (by omega))
 ·simp only[List.length_append,List.length_replicate,<- hk.1,hlen];omega
 ·rw[hlen];exact Nat.mul_le_mul_right _ hc
 ·rw[List.drop_zero,hk.1,List.take_left']
  ·exact hk.mono hle
  ·rfl
theorem ae0(P:Program):Lj P:=by
 intro β bs w w' μ e x y x' y' v id h hx hy hm K hK
 unfold aaR at h
 unfold BH
 cases hi:(P.info? e).map λi=>(i.size,i.bytes,i.zero.map λz=>z.cells.toList.length)with
 |none=>rw[hi]at h;cases h
 |some tr=>
  obtain⟨size,bytes,zl⟩:=tr
  rw[hi]at h
  cases zl with
  |none=>cases h
  |some zl=>
   simp only at h |-
   replace h:=du h
   obtain⟨hb,h⟩:=h
   rw[hb]
   simp only[cond_true]
   split at h
   ·rename_i a n k
    split at h
    ·cases h
    ·rename_i new lR
     replace h:=du h
     obtain⟨hg,h⟩:=h
     simp only[Bool.and_eq_true]at hg
     obtain⟨⟨g1,g2⟩,g3⟩:=hg
     have Wi:=hx
     obtain⟨a',k',rfl,hnk⟩:=hx.room (Nat.le_of_ble_eq_true g3)
     simp only[cond_false]
     unfold iw
     refine PB lR hy hm λMc hl=>⟨Nat.le_of_ble_eq_true g1,Nat.le_of_ble_eq_true g2,hnk,?_⟩
     cases h0:Nat.beq (jv y) 0 with
     |true=>
      rw[h0]at h
      simp only[cond_true]at h
      refine .inl ⟨beq_iff.1 h0,λhn=>?_,?_⟩
      ·have hn':Nat.beq n 0=false:=by
        cases hq:Nat.beq n 0 with
        |false=>rfl
        |true=>exact absurd (beq_iff.1 hq) hn
       rw[hn']at h
       simp only[cond_false]at h
       split at h
       ·rename_i b o
        split at h
        ·rename_i qZ hold
         obtain⟨z,hz,cN,hc,_⟩:=jq hm hold
         rcases Wi.VV with⟨y1,C',Kt,e1⟩|⟨e0,_⟩
         ·rw[hz]at Kt;cases Kt
          simp only[PV.raw.injEq,Value.slice.injEq]at e1
          exact⟨_,_,_,e1.1,hc⟩
         ·exact absurd e0 hn
        ·cases h
       ·cases h
      ·have e1:v=.raw (.slice a n k)/\w'=w:=by
        cases hq:Nat.beq n 0 with
        |true=>rw[hq]at h;simp only[cond_true]at h;cases h;exact⟨rfl,rfl⟩
        |false=>
         rw[hq]at h
         simp only[cond_false]at h
         split at h
         ·split at h
          ·cases h;exact⟨rfl,rfl⟩
          ·cases h
         ·cases h
       obtain⟨rfl,rfl⟩:=e1
       exact hK β _ μ (aU.le.refl β) Wi hm
     |false=>
      rw[h0]at h
      simp only[cond_false]at h
      have Ss:jv y≠0:=by intro e0;rw[e0]at h0;cases h0
      cases lT:aE new with
      |false=>rw[lT]at h;cases h
      |true=>
       rw[lT]at h
       simp only[Bool.not_true,cond_false]at h
       refine .inr ⟨Ss,hl.aE lT,?_⟩
       have hlen:=Mb lR
       cases hk:Nat.blt k VC with
       |true=>
        rw[hk]at h
        simp only[cond_true]at h
        have Su:k<VC:=Nat.le_of_ble_eq_true hk
        have CQ:k'=k:=by
         cases Wi with
         |raw _ w h=>cases h with
          |cl _ h=>rfl
          |sl=>rfl
          |vs=>exact absurd Su (by omega)
          |ve=>exact absurd Su (by omega)
        subst CQ
        cases hr:Nat.ble (n+jv y) k' with
        |true=>
         rw[hr]at h
         simp only[cond_true]at h
         have hle:n+jv y<=k':=Nat.le_of_ble_eq_true hr
         refine⟨λ_=>?_,λbB=>absurd bB (by omega)⟩
         split at h
         ·rename_i b o
          split at h
          ·rename_i T cs hgc
           replace h:=du h
           obtain⟨q1,h⟩:=h
           obtain⟨w1,e1,_,e3⟩:=gn w b (.cells T (az.ei cs (o+n*size) new))
           rw[e1]at h
           cases h
           obtain⟨bb,cc,cN,p1,p2,p3⟩:=hm.obj b _ hgc
           rcases Wi.VV with⟨z,C',hz,e4⟩|⟨en,aa,e4⟩
           ·rw[p1]at hz;cases hz
            simp only[PV.raw.injEq,Value.slice.injEq]at e4
            obtain⟨rfl,_⟩:=e4
            refine⟨bb,0+o,T,cN,rfl,p2,?_,?_⟩
            ·rw[Nat.zero_add,<- p3.1];exact Nat.le_of_ble_eq_true q1
            ·refine hK β _ _ (aU.le.refl β) (.raw _ _ (.sl b o _ k' bb 0 cc p1 Su)) (hm.GO hgc rfl p1 (e3 bs) ⟨bb,cc,_,p1,Mem.ai _ _ _,?_⟩)
             rw[Nat.zero_add];exact p3.ei hl _
           ·simp only[PV.raw.injEq,Value.slice.injEq]at e4
            omega
          ·cases h
         ·cases h
        |false=>
         rw[hr]at h
         simp only[cond_false]at h
         have hgt:¬n+jv y<=k':=λhle=>by rw[Nat.ble_eq_true_of_le hle]at hr;cases hr
         refine⟨λhle=>absurd hle hgt,λ_=>?_⟩
         cases wu:Nat.beq n 0 with
         |true=>
          rw[wu]at h
          simp only[cond_true]at h
          have NC:=beq_iff.1 wu
          refine⟨[],.inl ⟨NC,rfl⟩,λb' c' hb hc=>?_⟩
          exact Cy (n:=n+jv y) h hm hl (by rw[hlen,NC,Nat.zero_add]) rfl hK b' c' hb hc
         |false=>
          rw[wu]at h
          simp only[cond_false]at h
          split at h
          ·rename_i b o
           split at h
           ·rename_i qZ hold
            obtain⟨z,hz,cN,jN,Wr⟩:=jq hm hold
            rcases Wi.VV with⟨y1,C',Kt,e1⟩|⟨e0,_⟩
            ·rw[hz]at Kt;cases Kt
             simp only[PV.raw.injEq,Value.slice.injEq]at e1
             refine⟨cN,.inr ⟨_,_,e1.1,jN⟩,λb' c' hb hc=>?_⟩
             exact Cy (n:=n+jv y) h hm (Wr.append hl) (by rw[List.length_append,JS hold,hlen,Nat.add_mul]) rfl hK b' c' hb hc
            ·rw[e0]at wu;cases wu
           ·cases h
          ·cases h
       |false=>
        rw[hk]at h
        simp only[cond_false]at h
        split at h
        ·rename_i b off
         split at h
         ·rename_i T sz cs hgc
          replace h:=du h
          obtain⟨q,h⟩:=h
          simp only[Bool.and_eq_true]at q
          obtain⟨⟨⟨q1,q2⟩,q3⟩,q4⟩:=q
          have t1:=beq_iff.1 q1
          have t2:=beq_iff.1 q2
          have t3:=beq_iff.1 q3
          have t4:off+n*size<=cs.length:=Nat.le_of_ble_eq_true q4
          subst t1;subst t2
          obtain⟨w1,e1,_,e3⟩:=gn w b .dead
          rw[e1]at h
          obtain⟨bb,ba,cc,cN,p1,p2,p3,p4,p5⟩:=hm.obj b _ hgc
          have Wv:fq β (getM bs w1) μ:=hm.kill (by rw[hgc];simp) (e3 bs)
          have hold:bq β ((cs.drop off).take (n*sz)) ((cN.drop (ba+off)).take (n*sz)):=by
           have h6:=(p5.drop off).take (n*sz)
           rw[List.drop_take,List.drop_drop,List.take_take,Nat.min_eq_left (by omega)]at h6
           exact h6
          have Ku:((cs.drop off).take (n*sz)).length=n*sz:=by simp;omega
          have WD:(∃l,k=VC+l/\a'=some ⟨bb,ba+off,none⟩/\k'=cc-l/\l+n<=cc)\/(n=0/\k'=0):=by
           cases Wi with
           |raw _ w h=>cases h with
            |cl _ gu=>cases gu
            |sl i o n k b1 a1 c1 hh qw=>
             have hkt:Nat.blt k VC=true:=Nat.ble_eq_true_of_le qw
             rw[hkt]at hk;cases hk
            |vs i o n l b1 a1 c1 hh uF=>rw[p1]at hh;cases hh;exact .inl ⟨l,rfl,rfl,rfl,uF⟩
            |ve i o l b1 a1 o1 hh ho=>exact .inr ⟨rfl,rfl⟩
          refine⟨λhle=>?_,λbB=>?_⟩
          ·rcases WD with⟨l,f1,f2,f3,f4⟩|⟨f1,f2⟩
           ·have qv:l*sz+(cc-l)*sz=cc*sz:=by rw[<- Nat.add_mul];congr 1;omega
            have adT:off=l*sz:=by rw[t3,f1,Nat.add_sub_cancel_left]
            have hnm:n*sz+jv y*sz<=(cc-l)*sz:=by rw[<- Nat.add_mul];exact Nat.mul_le_mul_right _ (by omega)
            have Wt:Mc.length=jv y*sz:=by rw[<- hl.1,hlen]
            refine⟨bb,ba+off,T,cN,f2,p2,by rw[f3,p3];omega,?_⟩
            obtain⟨r1,w2,r2,_,r4⟩:=lN h
            cases r2
            have ak6:id≠b:=by rintro rfl;rw[e3 bs]at r1;simp at r1
            have fM:getM bs w id=none:=by rw[e3 bs,if_neg ak6]at r1;exact r1
            have nG:=(aU.oU β id (bb,ba+off,cc-l) (β.r 0)).1
            rw[f2,f3]
            refine hK _ _ _ (aU.oG (hm.fresh fM) (bb,ba+off,cc-l) (β.r 0)) (.raw _ _ (.vs id 0 (n+jv y) 0 bb (ba+off) (cc-l) nG (by omega))) (hm.move (e':=.vec T sz ((cs.drop off).take (n*sz)++new)) hgc rfl p1 fM (ba+off) (cc-l) (λj=>by rw[r4,e3 bs]) ⟨bb,ba+off,cc-l,_,nG,Mem.ai _ _ _,?_,?_,?_⟩)
            ·rw[rk _ _ _ (by omega)];omega
            ·rw[List.length_append,Ku,hlen];exact hnm
            ·rw[List.length_append,Ku,hlen,DP _ _ _ _ (by omega)]
             have e5:(az.ei (cN.drop (ba+off)) (n*sz) Mc).take (n*sz+jv y*sz)=(cN.drop (ba+off)).take (n*sz)++Mc:=by
              unfold az.ei
              rw[List.take_left']
              rw[List.length_append,List.length_take,List.length_drop,Wt,Nat.min_eq_left (by omega)]
             rw[e5]
             exact(hold.append hl).mono (aU.oG (hm.fresh fM) (bb,ba+off,cc-l) (β.r 0))
           ·omega
          ·rcases WD with⟨l,f1,f2,f3,f4⟩|⟨f1,f2⟩
           ·refine⟨_,.inr ⟨bb,ba+off,f2,?_⟩,λb' c' hb hc=>Cy (n:=n+jv y) h Wv (hold.append hl) (by rw[List.length_append,Ku,hlen,Nat.add_mul]) rfl hK b' c' hb hc⟩
            unfold aN
            simp only[p2]
            rw[if_pos (by omega)]
           ·have e0:(cN.drop (ba+off)).take (n*sz)=[]:=by rw[f1,Nat.zero_mul,List.take_zero]
            rw[e0]at hold
            exact⟨[],.inl ⟨f1,rfl⟩,λb' c' hb hc=>Cy (n:=n+jv y) h Wv (hold.append hl) (by rw[List.length_append,Ku,hlen,Nat.add_mul]) rfl hK b' c' hb hc⟩
         ·cases h
        ·cases h
   ·cases h
end Go.az.Xv
namespace Go.az.Xv
open Go.RowKit Go.az
section
variable {P:Program} {β:aU} {c:Cx} {o:Oper} {p:bn} {μ:Mem} {r:XS×XW} {K:bn->Mem->Prop}
theorem dE{E:fC}{fz:List Nat}{op:Op}(h:o.op=op)(he:Nu E fz {o with op:=op} p μ K=V1 E false fz {o with op:=op} p μ K)(hv:V1 E false fz o p μ K):Nu E fz o p μ K:=by
 rw[sg h,he,<- dX h];exact hv
theorem RX(I:Inv P β c o p μ)(hx:X1 P c o.op=.ok r)(hK:lE β c.bs r K):(c.gd=true->V1 (c.d.env P) false c.fz o p μ K)/\(c.gd=false->Nu (c.d.env P) c.fz o p μ K):=by
 have hA:Lj P:= @ae0 P
 cases ho:o.op with
 |move x=>rw[ho]at hx;have h:=I.move (.inl ho) hx hK;exact⟨λ_=>h,λ_=>dE ho rfl h⟩
 |assign x=>rw[ho]at hx;have h:=I.move (.inr ho) hx hK;exact⟨λ_=>h,λ_=>dE ho rfl h⟩
 |pick x y z=>rw[ho]at hx;have h:=I.pick ho hx hK;exact⟨λ_=>h,λ_=>dE ho rfl h⟩
 |alloc t=>rw[ho]at hx;have h:=I.alloc ho hx hK;exact⟨λ_=>h,λ_=>dE ho rfl h⟩
 |box t x=>rw[ho]at hx;have h:=I.box ho hx hK;exact⟨λ_=>h,λ_=>dE ho rfl h⟩
 |build t ps=>rw[ho]at hx;have h:=I.build ho hx hK;exact⟨λ_=>h,λ_=>dE ho rfl h⟩
 |buildSlice t n ps=>rw[ho]at hx;have h:=I.VV ho hx hK;exact⟨λ_=>h,λ_=>dE ho rfl h⟩
 |load t x=>rw[ho]at hx;have h:=I.load ho hx hK;exact⟨λ_=>h,λ_=>dE ho rfl h⟩
 |store t x y=>rw[ho]at hx;have h:=I.store ho hx hK;exact⟨λ_=>h,λ_=>dE ho rfl h⟩
 |nilCheck x=>rw[ho]at hx;have h:=I.agX ho hx hK;exact⟨λ_=>h,λ_=>dE ho rfl h⟩
 |binOp op t x y ty=>rw[ho]at hx;exact I.al3 ho hx hK
 |unOp op t x=>rw[ho]at hx;have h:=I.un ho hx hK;exact⟨λ_=>h,λ_=>dE ho rfl h⟩
 |convert a b x=>rw[ho]at hx;exact I.conv ho hx hK
 |makeInterface t x=>rw[ho]at hx;have h:=I.iface ho hx hK;exact⟨λ_=>h,λ_=>dE ho rfl h⟩
 |makeFunc f a b=>rw[ho]at hx;have h:=I.ag1 ho hx hK;exact⟨λ_=>h,λ_=>dE ho rfl h⟩
 |makeSlice t x y=>rw[ho]at hx;have h:=I.ag0 ho hx hK;exact⟨λ_=>h,λ_=>dE ho rfl h⟩
 |slice t x a b e=>rw[ho]at hx;have h:=I.slice ho hx hK;exact⟨λ_=>h,λ_=>dE ho rfl h⟩
 |fieldAddr t x f=>rw[ho]at hx;have h:=I.aeF ho hx hK;exact⟨λ_=>h,λ_=>dE ho rfl h⟩
 |field t x f=>rw[ho]at hx;have h:=I.field ho hx hK;exact⟨λ_=>h,λ_=>dE ho rfl h⟩
 |indexAddr t x i=>rw[ho]at hx;have h:=I.ady ho hx hK;exact⟨λ_=>h,λ_=>dE ho rfl h⟩
 |index t x i=>rw[ho]at hx;have h:=I.index ho hx hK;exact⟨λ_=>h,λ_=>dE ho rfl h⟩
 |extract x i=>rw[ho]at hx;have h:=I.ext ho hx hK;exact⟨λ_=>h,λ_=>dE ho rfl h⟩
 |call e=>rw[ho]at hx;have h:=I.call hA ho hx hK;exact⟨λ_=>h,λ_=>dE ho rfl h⟩
 |_=>rw[ho]at hx;cases hx
end
def da(w:XW)(x:O (XS×XW)):Prop:=∀r,x=.ok r->r.2=w
theorem da.bad{w:XW}:da w .bad:=λr h=>by cases h
theorem da.fX{w:XW}{dst:Option Nat}{s:XS}{v:PV}:da w (fX dst s w v):=λr h=>by
 cases dst with
 |none=>
  have:(O.ok (s,w):O (XS×XW))=.ok r:=h
  cases this;rfl
 |some d=>
  obtain⟨s1,e,_⟩:=tn s d v
  have:pt s d v (λs=>(.ok (s,w):O (XS×XW)))=.ok r:=h
  rw[e]at this
  cases this;rfl
theorem da.bif{w:XW}{b:Bool}{x y:O (XS×XW)}(h:da w x)(k:da w y):da w (bif b then x else y):=by cases b<;>assumption
section
variable {P:Program} {bs:Bs} {dst:Option Nat} {s:XS} {w:XW}
theorem SF{a b e:Operand}:da w (Jt dst s w a b e):=by
 unfold Jt;split
 ·exact .fX
 ·exact .bad
theorem NZ{t:TypeId}{ps:List (Nat×Operand)}:da w (BT P dst s w t ps):=by
 unfold BT;refine .bif ?_ .bad;split
 ·exact .fX
 ·exact .bad
theorem ado{ks:List KV}{t:TypeId}{vs:Option (List PV)}:da w (ldX P dst s w ks t vs):=by
 unfold ldX;split
 ·exact .bif .fX .bad
 ·exact .bad
theorem SH{t:TypeId}{v:PV}:da w (Ju bs P dst s w t v):=by
 unfold Ju;split
 ·exact .bad
 ·split
  ·split
   ·exact .bif .fX .bad
   ·exact .bad
  ·exact ado
  ·exact .bad
theorem Xg{v:PV}:da w (SG dst s w v):=by
 unfold SG;split
 ·exact .fX
 ·exact .fX
 ·exact .bif .fX .bad
 ·exact .bad
theorem Xj{op:BinOp}{t:TypeId}{x y:PV}:da w (Lk P dst s w op t x y):=by
 unfold Lk;split
 ·exact .fX
 ·exact .bad
theorem SM{gd tm:Bool}{op:BinOp}{t:TypeId}{x y:PV}:da w (Jx bs P gd tm dst s w op t x y):=by
 unfold Jx NS;refine .bif ?_ Xj;split
 ·exact .bif .fX .bad
 ·exact .bad
theorem abD{op:UnOp}{x:PV}:da w (xUn dst s w op x):=by
 unfold xUn;split
 ·exact .fX
 ·exact .fX
 ·exact .bad
theorem SL{gd:Bool}{a b:TypeId}{x:PV}:da w (Jv bs P gd dst s w a b x):=by
 unfold Jv;split
 ·refine .bif ?_ .bad;split
  ·split
   ·exact .fX
   ·exact .bad
  ·exact .bad
 ·refine .bif ?_ .bad;split
  ·exact .bif .fX .bad
  ·exact .bad
 ·exact .bad
theorem NU{t:TypeId}{x:PV}:da w (BP P dst s w t x):=by
 unfold BP;exact .bif .fX .bad
theorem abG{f:Fn}{a b:List Operand}:da w (xFn dst s w f a b):=by
 unfold xFn;exact .bif .bad (.bif .fX .bad)
theorem Xi{size:Nat}{a:Option Addr}{n k:Nat}{l h:Int}{m:Option Int}:da w (NY size dst s w a n k l h m):=by
 unfold NY;refine .bif .bad (.bif (.bif .fX .bad) (.bif ?_ .bad));split
 ·split
  ·exact .fX
  ·exact .bif .fX .bad
 ·exact .bad
theorem NR{t:TypeId}{x:PV}{a b e:Option Operand}:da w (BN P dst s w t x a b e):=by
 unfold BN;split
 ·split
  ·exact .bif .bad Xi
  ·exact .bad
 ·split
  ·exact .bad
  ·split
   ·exact .bif .fX .bad
   ·exact .bad
 ·exact .bad
theorem NX{t:TypeId}{x:PV}{f:Nat}:da w (BS P dst s w t x f):=by
 unfold BS;split
 ·exact .bad
 ·split
  ·exact .fX
  ·exact .fX
  ·exact .bad
theorem NW{t:TypeId}{x:PV}{f:Nat}:da w (BR P dst s w t x f):=by
 unfold BR;split
 ·split
  ·exact .fX
  ·exact .bad
 ·exact .bad
theorem NV{t:TypeId}{x i:PV}:da w (BQ P dst s w t x i):=by
 unfold BQ;split
 ·exact .bif .fX .bad
 ·exact .bif .fX .bad
 ·exact .bad
theorem NT{t:TypeId}{x i:PV}:da w (BO P dst s w t x i):=by
 unfold BO;split
 ·refine .bif ?_ .bad;split
  ·exact .fX
  ·exact .bad
 ·refine .bif ?_ .bad;split
  ·exact .bif .fX .bad
  ·exact .bad
 ·exact .bad
theorem Xh{x:PV}{i:Nat}:da w (SJ dst s w x i):=by
 unfold SJ;split
 ·split
  ·exact .bif .fX .bad
  ·exact .bad
 ·exact .bad
end
theorem ae3{P:Program}{c:Cx}{o:Oper}(ht:aV o=true):da c.w (X1 P c o.op):=by
 unfold aV at ht
 cases ho:o.op with
 |move x=>exact da.fX
 |assign x=>exact da.fX
 |pick x y z=>exact SF
 |build t ps=>exact NZ
 |load t x=>exact SH
 |nilCheck x=>exact Xg
 |binOp op t x y ty=>exact SM
 |unOp op t x=>exact abD
 |convert a b x=>exact SL
 |makeInterface t x=>exact NU
 |makeFunc f a b=>exact abG
 |slice t x a b e=>exact NR
 |fieldAddr t x f=>exact NX
 |field t x f=>exact NW
 |indexAddr t x i=>exact NV
 |index t x i=>exact NT
 |extract x i=>exact Xh
 |call e=>
  obtain⟨UY,args,Xc⟩:=e
  show da c.w (Jw c.bs P c.M c.cb c.Y c.dst c.ty c.id c.s c.w ⟨UY,args,Xc⟩)
  unfold Jw
  cases UY with
  |value f=>rw[ho]at ht;cases ht
  |invoke x n=>rw[ho]at ht;cases ht
  |builtin b=>
   dsimp only
   unfold Dk
   cases b<;>first
    |(rw[ho]at ht;cases ht;done)
    |(split<;>first
      |exact .bad
      |exact .fX
      |(split<;>first
       |exact .bad
       |exact .fX
       |exact .bif .fX .bad)
      |(exfalso;simp_all;done))
 |_=>rw[ho]at ht;cases ht
structure RI(P:Program)(β:aU)(r:Rx)(s:XS)(w:XW)(p:bn)(μ:Mem):Prop where
 fr:gA β s p
 mem:fq β (getM r.bs w) μ
 cb:Gx P r.cb
 M:zG P r.M
 Y:No P β r.Y
variable {P:Program} {β:aU} {r:Rx} {s:XS} {w:XW} {p:bn} {μ:Mem} {x:XS×XW} {K:bn->Mem->Prop}
theorem lE.mono{bs:Bs}{γ:aU}(h:lE β bs x K)(hl:β.le γ):lE γ bs x K:=λδ p' μ' k hr hm=>h δ p' μ' (hl.trans k) hr hm
theorem RI.step{γ:aU}(h:RI P β r s w p μ)(hl:β.le γ){s':XS}{w':XW}{p':bn}{μ':Mem}(hr:gA γ s' p')(hm:fq γ (getM r.bs w') μ'):RI P γ r s' w' p' μ':=⟨hr,hm,h.cb,h.M,h.Y.mono hl⟩
theorem RI.inv(h:RI P β r s w p μ)(gd:Bool)(id:Nat)(o:Oper):Inv P β (r.c gd id s w o.dst o.type) o p μ:=⟨h.fr,h.mem,h.cb,h.M,h.Y,rfl,rfl⟩
theorem RI.gd(h:RI P β r s w p μ){id:Nat}{o:Oper}{g:Nat×Bool}(hg:o.guard=some g)(hx:gdY P r id s w o.dst o.type o.op g=.ok x)(hK:lE β r.bs x K):
  fN r.ops o p (λdb=>V1 (r.d.env P) false r.fz o db μ K) (λdb=>K (aZ o db (.aC [])) μ):=by
 obtain⟨j,b⟩:=g
 unfold gdY at hx
 unfold fN
 rw[hg]
 dsimp only at hx |-
 cases hj:kO r.ops j with
 |none=>rw[hj]at hx;cases hx
 |some k=>
  rw[hj]at hx
  dsimp only at hx |-
  have hv:=h.fr.1 k
  generalize gt s k=v at hv hx
  generalize p.σ k=q at hv |-
  split at hx
  ·rename_i cc
   rw[hv.bool]
   dsimp only
   obtain⟨s1,e1,r1⟩:=h.fr.pt k (v:=pB cc) (w:=pB cc) (Rl.cl rfl)
   rw[e1]at hx
   have h1:RI P β r s1 w {p with σ:=gS p.σ k (pB cc)} μ:=h.step (aU.le.refl β) r1 h.mem
   have skip:fX o.dst s1 w (.aC [])=.ok x->K (aZ o {p with σ:=gS p.σ k (pB cc)} (.aC [])) μ:=λhx=>(h1.inv true id o).fin Rl.Og hx hK
   have act:X1 P (r.c true id s1 w o.dst o.type) o.op=.ok x->V1 (r.d.env P) false r.fz o {p with σ:=gS p.σ k (pB cc)} μ K:=λhx=>(RX (h1.inv true id o) hx hK).1 rfl
   cases cc<;>cases b
   ·exact act hx
   ·exact skip hx
   ·exact skip hx
   ·exact act hx
  ·cases hv with
   |aC a b h1 h2=>exact(h.inv true id o).fin Rl.Og hx hK
  ·cases hx
theorem RI.gq(h:RI P β r s w p μ){id:Nat}{o:Oper}(hx:WJ P r id o s w=.ok x)(hK:lE β r.bs x K):
  fN r.ops o p (λdb=>V1 (r.d.env P) false r.fz o db μ K) (λdb=>K (aZ o db (.aC [])) μ):=by
 unfold WJ at hx
 cases hg:o.guard with
 |none=>
  rw[hg]at hx
  unfold fN
  rw[hg]
  exact(RX (h.inv true id o) hx hK).1 rfl
 |some g=>rw[hg]at hx;exact h.gd hg hx hK
theorem EH{α β:Type}{x:O α}{f:α->O β}{y:β}(h:(O.rec .bad f x:O β)=.ok y):∃a,x=.ok a/\f a=.ok y:=by
 cases x with
 |bad=>cases h
 |ok a=>exact⟨a,rfl,h⟩
theorem RI.list{Q:bn->Mem->Prop}:∀(l:List Oper) (β:aU) (s:XS) (w:XW) (p:bn) (μ:Mem) (id:Nat),RI P β r s w p μ->XL P l r id s w=.ok x->lE β r.bs x Q->Vl (r.d.env P) r.fz r.ops Q l p μ
 |[],β,s,w,p,μ,id,h,hx,hK=>by
  have:(O.ok (s,w):O (XS×XW))=.ok x:=hx
  cases this
  exact hK β p μ (aU.le.refl β) h.fr h.mem
 |o::l,β,s,w,p,μ,id,h,hx,hK=>by
  have xt:(O.rec .bad (λx=>Prod.rec (λs w=>XL P l r (Nat.succ id) s w) x) (gdX P r id o s w):O (XS×XW))=.ok x:=hx
  obtain⟨⟨s1,w1⟩,e1,e2⟩:=EH xt
  have hK1:lE β r.bs (s1,w1) (λbu μ'=>Vl (r.d.env P) r.fz r.ops Q l bu μ'):=λγ p' μ' hl hr hm=>RI.list l γ s1 w1 p' μ' (id+1) (h.step hl hr hm) e2 (hK.mono hl)
  unfold gdX at e1
  cases hg:o.guard with
  |none=>
   rw[hg]at e1
   unfold Vl
   rw[hg]
   exact(RX (h.inv false id o) e1 hK1).2 rfl
  |some g=>
   rw[hg]at e1
   have:=h.gd hg e1 hK1
   obtain⟨j,b⟩:=g
   unfold fN at this
   unfold Vl
   rw[hg]at this |-
   exact this
end Go.az.Xv
namespace Go.az.Xv
open Go.RowKit Go.az
theorem ZT:∀{a b:Value},eqV a b=true->a=b:=by
 intro a b h
 unfold eqV at h
 split at h<;>first
  |(cases h;done)
  |rfl
  |(simp only[Bool.and_eq_true,decide_eq_true_eq,beq_iff_eq,beq_iff]at h)
  |skip
 ·obtain⟨rfl,rfl⟩:=h;rfl
 ·subst h;rfl
 ·rw[cf.1 h]
 ·obtain⟨rfl,rfl⟩:=h;rfl
 ·obtain⟨rfl,rfl⟩:=h;rfl
 ·obtain⟨⟨⟨rfl,rfl⟩,rfl⟩,rfl⟩:=h;rfl
theorem UM:∀{a b:Fl},ZW a b=true->a=b:=by
 intro a b h
 unfold ZW at h
 split at h<;>first|rfl|(cases h;done)
mutual
theorem yW:∀(p q:PV),yX p q=true->p=q
 | .raw a,q,h=>by
   cases q with
   |raw b=>rw[yX]at h;rw[ZT h]
   |_=>simp[yX]at h
 | .list n f rows,q,h=>by
   cases q with
   |list n' f' nZ=>
    rw[yX]at h
    simp only[Bool.and_eq_true,beq_iff]at h
    rw[h.1.1,UM h.1.2,KH rows nZ h.2]
   |_=>simp[yX]at h
 | .bl r o,q,h=>by cases q<;>simp[yX]at h
 | .fn f a b,q,h=>by
   cases q with
   |fn f' a' b'=>
    cases f<;>cases f'<;>simp only[yX,Bool.false_and,Bool.and_eq_true,beq_iff,Bool.false_eq_true,false_and]at h
    ·rw[h.1.1,jS a a' h.1.2,jS b b' h.2]
    ·rw[h.1.1,jS a a' h.1.2,jS b b' h.2]
   |_=>simp[yX]at h
 | .agg a,q,h=>by
   cases q with
   |agg b=>rw[yX]at h;rw[jS a b h]
   |_=>simp[yX]at h
 | .aC a,q,h=>by
   cases q with
   |aC b=>rw[yX]at h;rw[jS a b h]
   |_=>simp[yX]at h
 | .iface t p,q,h=>by
   cases q with
   |iface t' p'=>
    rw[yX]at h
    simp only[Bool.and_eq_true,beq_iff]at h
    rw[h.1,yW p p' h.2]
   |_=>simp[yX]at h
 | .box k o,q,h=>by
   cases q with
   |box k' o'=>
    rw[yX]at h
    simp only[Bool.and_eq_true,beq_iff]at h
    rw[h.1,h.2]
   |_=>simp[yX]at h
 | .au,q,h=>by
   cases q with
   |au=>rfl
   |_=>simp[yX]at h
theorem jS:∀(a b:List PV),Iy a b=true->a=b
 |[],b,h=>by
  cases b with
  |nil=>rfl
  |cons y b=>simp[Iy]at h
 |x::a,b,h=>by
  cases b with
  |nil=>simp[Iy]at h
  |cons y b=>
   rw[Iy]at h
   simp only[Bool.and_eq_true]at h
   rw[yW x y h.1,jS a b h.2]
theorem KH:∀(a b:Lq),MS a b=true->a=b
 |[],b,h=>by
  cases b with
  |nil=>rfl
  |cons y b=>simp[MS]at h
 |x::a,b,h=>by
  cases b with
  |nil=>simp[MS]at h
  |cons y b=>
   rw[MS]at h
   simp only[Bool.and_eq_true]at h
   rw[jS x y h.1,KH a b h.2]
end
theorem QK:∀{a b:XO},eqO a b=true->a=b:=by
 intro a b h
 unfold eqO at h
 split at h<;>first
  |rfl
  |(cases h;done)
  |(simp only[Bool.and_eq_true,beq_iff]at h)
 ·obtain⟨rfl,h⟩:=h;rw[jS _ _ h]
 ·obtain⟨⟨rfl,rfl⟩,h⟩:=h;rw[jS _ _ h]
theorem vn{α:Type}{f:α->α->Bool}(hf:∀a b,f a b=true->a=b):∀(a b:Tr α),a.eq f b=true->a=b
 | .lf,.lf,_=>rfl
 | .lf,.nd ..,h=>by simp[Tr.eq]at h
 | .nd ..,.lf,h=>by simp[Tr.eq]at h
 | .nd a v b,.nd a' v' b',h=>by
   cases v<;>cases v'<;>simp only[Tr.eq,Bool.false_and,Bool.true_and,Bool.and_eq_true,Bool.false_eq_true,false_and]at h
   ·rw[vn hf a a' h.1,vn hf b b' h.2]
   ·rw[hf _ _ h.1.1,vn hf a a' h.1.2,vn hf b b' h.2]
theorem QM:∀(a b:List (Nat×Nat)),eqD a b=true->a=b
 |[],[],_=>rfl
 |[],_::_,h=>by simp[eqD]at h
 |_::_,[],h=>by simp[eqD]at h
 |(a,b)::l,(a',b')::l',h=>by
  rw[eqD]at h
  simp only[Bool.and_eq_true,beq_iff]at h
  rw[h.1.1,h.1.2,QM l l' h.2]
theorem ZU{s s':XS}{w w':XW}(h:eqR s w s' w'=true):s=s'/\w=w':=by
 obtain⟨fr,D⟩:=s
 obtain⟨fr',D'⟩:=s'
 obtain⟨m,nx⟩:=w
 obtain⟨m',nx'⟩:=w'
 unfold eqR at h
 simp only[Bool.and_eq_true,beq_iff]at h
 rw[vn yW fr fr' h.1.1.1,QM D D' h.1.1.2,h.1.2,vn (λ_ _=>QK) m m' h.2]
 exact⟨rfl,rfl⟩
def DL(β:aU)(bs:Bs)(Q:bn->Mem->Prop):Ji->Prop
 | .no=>False
 | .all=>True
 | .one s w=>lE β bs (s,w) Q
theorem tG{β:aU}{bs:Bs}{Q:bn->Mem->Prop}{a b:Ji}(h:DL β bs Q (Bl a b)):DL β bs Q a/\DL β bs Q b:=by
 cases a with
 |no=>exact h.elim
 |all=>exact⟨trivial,h⟩
 |one s w=>
  cases b with
  |no=>exact h.elim
  |all=>exact⟨h,trivial⟩
  |one s' w'=>
   unfold Bl at h
   dsimp only at h
   cases he:eqR s w s' w' with
   |false=>rw[he]at h;exact h.elim
   |true=>
    rw[he]at h
    obtain⟨rfl,rfl⟩:=ZU he
    exact⟨h,h⟩
theorem DL.mono{β γ:aU}{bs:Bs}{Q:bn->Mem->Prop}{a:Ji}(h:DL β bs Q a)(hl:β.le γ):DL γ bs Q a:=by
 cases a with
 |no=>exact h
 |all=>trivial
 |one s w=>exact lE.mono h hl
theorem Py:∀(l:List Oper) (i:Nat),nth l i=l[i]?
 |[],i=>by cases i<;>rfl
 |o::l,0=>rfl
 |o::l,i+1=>by
  show nth l i=_
  rw[Py l i];rfl
variable {P:Program} {β:aU} {r:Rx} {s:XS} {w:XW} {p:bn} {μ:Mem} {x:XS×XW}
theorem xI{bs:Bs}{id i:Nat}{K:XS->XW->Ji}{Q:bn->Mem->Prop}(h:DL β bs Q (mT P r id i s w K)):∃o s1 w1,r.ops[i]?=some o/\WJ P r (id+i) o s w=.ok (s1,w1)/\DL β bs Q (K s1 w1):=by
 unfold mT at h
 rw[Py,Array.getElem?_toList]at h
 cases ho:r.ops[i]? with
 |none=>rw[ho]at h;exact h.elim
 |some o=>
  rw[ho]at h
  replace h:DL β bs Q (O.rec .no (λx=>Prod.rec (λs w=>K s w) x) (WJ P r (id+i) o s w):Ji):=h
  cases hg:WJ P r (id+i) o s w with
  |bad=>rw[hg]at h;exact h.elim
  |ok y=>
   obtain⟨s1,w1⟩:=y
   rw[hg]at h
   exact⟨o,s1,w1,rfl,hg,h⟩
theorem aeA{id:Nat}{o:Oper}(ht:aV o=true):da w (WJ P r id o s w):=by
 unfold WJ
 cases hg:o.guard with
 |none=>exact ae3 (c:=r.c true id s w o.dst o.type) ht
 |some g=>
  show da w (gdY P r id s w o.dst o.type o.op g)
  unfold gdY
  split
  ·exact .bad
  ·rename_i k _
   split
   ·rename_i cc _
    obtain⟨s1,e1,_⟩:=tn s k (pB cc)
    rw[e1]
    exact .bif (ae3 (c:=r.c true id s1 w o.dst o.type) ht) .fX
   ·exact .fX
   ·exact .bad
theorem fq.back{γ:aU}{g:Nat->Option XO}{μ':Mem}(h:fq β g μ)(hl:β.le γ)(k:fq γ g μ'):fq γ g μ:=by
 refine⟨k.UR,λi e he=>(h.obj i e he).mono hl,λi j e e' x y hi hj v v' hx hy wh=>?_⟩
 obtain⟨x',xt,_⟩:=(h.obj i e hi).at v
 obtain⟨y',YX,_⟩:=(h.obj j e' hj).at v'
 have e1:=(hl _ _ xt).1
 have e2:=(hl _ _ YX).1
 rw[hx]at e1;rw[hy]at e2
 cases e1;cases e2
 exact h.inj i j e e' _ _ hi hj v v' xt YX wh
theorem RI.take{Q R:bn->Mem->Prop}{i id:Nat}{K:XS->Ji}(h:RI P β r s w p μ)(aD:∀o,r.ops[i]?=some o->aV o=true)(hx:DL β r.bs Q (mT P r id i s w λs _=>K s))
  (next:∀γ s1 p',RI P γ r s1 w p' μ->DL γ r.bs Q (K s1)->R p' μ):nR (r.d.env P) r.fz r.ops true μ i p (λbu=>R bu μ):=by
 obtain⟨o,s1,w1,ho,hg,hr⟩:=xI hx
 unfold nR
 rw[ho]
 have e1:w1=w:=aeA (aD o ho) _ hg
 subst e1
 exact h.gq (K:=λbu _=>R bu μ) hg λγ p' μ' hl hf hm=>next γ s1 p' (h.step hl hf (h.mem.back hl hm)) (hr.mono hl)
theorem HV{q:cK}(h:isDone q=true):q=.done:=by cases q<;>first|rfl|(cases h;done)
theorem RI.ac1{Q:bn->Mem->Prop}:∀(pl:cK) (β:aU) (s:XS) (w:XW) (p:bn) (μ:Mem) (id:Nat),NK r.ops pl->RI P β r s w p μ->DL β r.bs Q (XQ P pl r id s w)->Vq (r.d.env P) r.fz r.ops Q pl p μ:=by
 intro pl
 induction pl with
 |nil=>intro β s w p μ id hq h hx;exact hx β p μ (aU.le.refl β) h.fr h.mem
 |tk i q ih=>
  intro β s w p μ id hq h hx
  replace hx:DL β r.bs Q (mT P r id i s w λs _=>XQ P q r id s w):=hx
  exact h.take (R:=λbu μ=>Vq (r.d.env P) r.fz r.ops Q q bu μ) hq.1 hx λγ s1 p' h1 yH=>ih γ s1 w p' μ id hq.2 h1 yH
 |ld i q q' ih ih'=>
  intro β s w p μ id hq h hx
  replace hx:DL β r.bs Q (mT P r id i s w λs' _=>Bl (XQ P q r id s' w) (XQ P q' r id s w)):=hx
  have xt:DL β r.bs Q (XQ P q' r id s w):=by
   obtain⟨o,s1,w1,_,_,hr⟩:=xI hx
   exact(tG hr).2
  exact⟨h.take (R:=λbu μ=>Vq (r.d.env P) r.fz r.ops Q q bu μ) hq.1 hx λγ s1 p' h1 yH=>ih γ s1 w p' μ id hq.2.1 h1 (tG yH).1,ih' β s w p μ id hq.2.2 h xt⟩
 |alt i q q' ih ih'=>
  intro β s w p μ id hq h hx
  replace hx:DL β r.bs Q (Bool.rec (Bl (mT P r id i s w λs' w'=>XQ P q r id s' w') (XQ P q' r id s w)) (mT P r id i s w λs' w'=>XQ P q r id s' w') (isDone q')):=hx
  have hx2:DL β r.bs Q (mT P r id i s w λs' w'=>XQ P q r id s' w')/\Vq (r.d.env P) r.fz r.ops Q q' p μ:=by
   cases hd:isDone q' with
   |true=>rw[hd]at hx;rw[HV hd];exact⟨hx,trivial⟩
   |false=>rw[hd]at hx;exact⟨(tG hx).1,ih' β s w p μ id hq.2 h (tG hx).2⟩
  refine⟨?_,hx2.2⟩
  obtain⟨o,s1,w1,ho,hg,hr⟩:=xI hx2.1
  unfold GX
  rw[ho]
  exact h.gq (K:=λbu μ'=>Vq (r.d.env P) r.fz r.ops Q q bu μ') hg λγ p' μ' hl hf hm=>ih γ s1 w1 p' μ' id hq.1 (h.step hl hf hm) (hr.mono hl)
 |done=>intro β s w p μ id hq h hx;trivial
theorem Ty{bs:Bs}{t:Tr XO}{x:Ji}{y:XS×XW}(h:ac0 t x=.ok y){Q:bn->Mem->Prop}(hK:lE β bs y Q):DL β (t::bs) Q x:=by
 cases x with
 |no=>cases h
 |all=>cases h
 |one s w=>
  obtain⟨u,e1,e2⟩:=Tr.pY w.m t
  have:w.m.tu t (λx=>(.ok (s,⟨x,w.nx⟩):O (XS×XW)))=.ok y:=h
  rw[e1]at this
  cases this
  have hg:getM bs ⟨u,w.nx⟩=getM (t::bs) w:=by
   funext i
   show(Option.rec (iN bs i) (λe=>some e) (u.get i):Option XO)=Option.rec (iN (t::bs) i) (λe=>some e) (w.m.get i)
   rw[e2]
   cases w.m.get i with
   |some v=>rfl
   |none=>rfl
  intro γ p' μ' hl hf hm
  exact hK γ p' μ' hl hf (by show fq γ (getM bs ⟨u,w.nx⟩) μ';rw[hg];exact hm)
theorem HM{ops:Array Oper}{pl:cK}(h:eI ops=some pl):NK ops pl:=by
 unfold eI at h
 cases hn:Region.noSelect ops with
 |false=>rw[hn]at h;cases h
 |true=>rw[hn]at h;exact lL h
theorem To{bs:Bs}{M:Tr FuncId}{d:aK}{cb:Cb}{Y:List YE}{fz:List Nat}{LQ:Nat}{ops:Array Oper}{dr:Bool}(k_:P.follows .mixedOrders=true)(q_:dK d.om (.region LQ ops dr))(h:RI P β ⟨bs,M,d,cb,Y,fz,ops⟩ s w p μ)
  (hx:Tp bs P M d cb Y fz LQ ops dr s w=.ok x) {Q:Exit->bn->Mem->Prop} (hK:lE β bs x (Q .normal)):V (d.env P) fz (.region LQ ops dr) Q p μ:=by
 unfold Tp at hx
 cases dr with
 |false=>exact RI.list (r:=⟨bs,M,d,cb,Y,fz,ops⟩) ops.toList β s ⟨w.m,w.nx+ops.size⟩ p μ w.nx ⟨h.fr,h.mem,h.cb,h.M,h.Y⟩ hx hK
 |true=>
  replace hx:QS P ⟨bs,M,d,cb,Y,fz,ops⟩ LQ s w=.ok x:=hx
  unfold QS at hx
  obtain⟨hq,hx⟩:=du hx
  have Zf:eI ops=look d.om LQ:=q_
  show bif P.follows .mixedOrders then(bif Ue d.cU LQ then(match eI ops with
   |some p'=>Vq (d.env P) fz ops (Q .normal) p' p μ
   |none=>False)else match oD ops with
   |some p'=>Vd (d.env P) fz ops μ (Q .normal) true p' p μ
   |none=>False)else False
  have hq':Ue d.cU LQ=true:=hq
  rw[k_,hq']
  simp only[cond_true]
  dsimp only at hx
  cases hl:look d.om LQ with
  |none=>rw[hl]at hx;cases hx
  |some pl=>
   rw[hl]at hx Zf
   rw[Zf]
   have aD:=HM Zf
   dsimp only at hx |-
   cases ad0:CH pl with
   |true=>
    rw[ad0]at hx
    simp only[cond_true]at hx
    refine RI.ac1 (r:=⟨bs,M,d,cb,Y,fz,ops⟩) pl β s ⟨w.m,w.nx+ops.size⟩ p μ w.nx aD ⟨h.fr,h.mem,h.cb,h.M,h.Y⟩ ?_
    unfold ac6 at hx
    split at hx
    ·rename_i s1 w1 e1
     rw[e1];cases hx;exact hK
    ·cases hx
   |false=>
    rw[ad0]at hx
    simp only[cond_false]at hx
    exact RI.ac1 (r:=⟨w.m::bs,M,d,cb,Y,fz,ops⟩) pl β s ⟨.lf,w.nx+ops.size⟩ p μ w.nx aD ⟨h.fr,h.mem,h.cb,h.M,h.Y⟩ (Ty hx hK)
end Go.az.Xv
namespace Go.az.Xv
open Go.RowKit Go.az
theorem Rl.get{β:aU}{v v':PV}(h:Rl β v v'){k:KV}{x:k.T}(hx:k.get v=some x):∃y,k.get v'=some y/\Rl β (k.p x) (k.p y):=by
 cases h with
 |raw a b h=>
  cases k with
  |raw k=>
   have xt:k.get a=some x:=by cases k<;>exact hx
   have h1:(k.get b).isSome=true:=h.kind k (by rw[xt];rfl)
   obtain⟨y,hy⟩:=Option.isSome_iff_exists.1 h1
   have YX:(KV.raw k).get (.raw b)=some y:=by cases k<;>exact hy
   refine⟨y,YX,?_⟩
   have e1:=K1.yO xt
   have e2:=K1.yO hy
   subst e1;subst e2
   exact .raw _ _ h
  |list sz=>cases hx
  |fn=>cases hx
 |fn f g a b c d hf h1 h2 ha hc=>
  cases k with
  |fn=>
   have:some (f,a,c)=some x:=hx
   cases this
   exact⟨(g,b,d),rfl,.fn _ _ _ _ _ _ hf h1 h2 ha hc⟩
  |raw k=>cases k<;>cases hx
  |list sz=>cases hx
 |agg a b h1 ha=>cases k with
  |raw k=>cases k<;>cases hx
  |list sz=>cases hx
  |fn=>cases hx
 |aC a b h1 ha=>cases k with
  |raw k=>cases k<;>cases hx
  |list sz=>cases hx
  |fn=>cases hx
 |iface t p q h=>cases k with
  |raw k=>cases k<;>cases hx
  |list sz=>cases hx
  |fn=>cases hx
 |box a o=>cases k with
  |raw k=>cases k<;>cases hx
  |list sz=>cases hx
  |fn=>cases hx
 |au p=>cases k with
  |raw k=>cases k<;>cases hx
  |list sz=>cases hx
  |fn=>cases hx
theorem yl{β:aU}{v v':PV}(h:Rl β v v'){k:KV}{x:PV}(hx:EI k v=some x):∃y,k.get v'=some y/\Rl β x (k.p y):=by
 unfold EI at hx
 split at hx
 ·rename_i z hz
  cases hx
  exact h.get hz
 ·cases hx
theorem uX{β:aU}:∀{ks:List KV} {a b xs:List PV},bq β a b->ik ks a=some xs->∃y,jX ks b=some y/\bq β xs (Ax ks y)
 |[],[],b,xs,h,hx=>by
  rw[h.cW]
  simp only[ik,Option.some.injEq]at hx
  subst hx
  exact⟨(),rfl,bq.nil β⟩
 |[],_::_,b,xs,h,hx=>by simp[ik]at hx
 |_::_,[],b,xs,h,hx=>by simp[ik]at hx
 |[k],v::vs,b,xs,h,hx=>by
  obtain⟨v',b',rfl,h1,h2⟩:=h.inv
  simp only[ik]at hx
  split at hx
  ·rename_i x hk
   split at hx
   ·rename_i ys kq
    cases hx
    cases vs with
    |cons _ _=>simp[ik]at kq
    |nil=>
     simp only[ik,Option.some.injEq]at kq
     subst kq
     rw[h2.cW]
     obtain⟨y,e1,e2⟩:=yl h1 hk
     exact⟨y,e1,bq.cons e2 (bq.nil β)⟩
   ·cases hx
  ·cases hx
 |k::k'::ks,v::vs,b,xs,h,hx=>by
  obtain⟨v',b',rfl,h1,h2⟩:=h.inv
  rw[ik]at hx
  split at hx
  ·rename_i x hk
   split at hx
   ·rename_i ys kq
    cases hx
    obtain⟨y,e1,e2⟩:=yl h1 hk
    obtain⟨ys',e3,e4⟩:=uX h2 kq
    exact⟨(y,ys'),by simp only[jX,e1,e3],bq.cons e2 e4⟩
   ·cases hx
  ·cases hx
theorem Rl.RU{β:aU}{a:List PV}{q:PV}(h:Rl β (.agg a) q):∃b,q=.agg b/\bq β a b:=by
 cases h with|agg a b h1 ha=>exact⟨b,rfl,h1,ha⟩
section
variable {β:aU} {s b b':XS} {p pb:bn}
theorem Rg(h:gA β s p)(hb:gA β b pb){x:Nat×Sh}{l:l_}(hx:sa s (x::l) b=.ok b'):∃v b1,oR p x=some v/\gA β b1 (Ca pb x v)/\sa s l b1=.ok b':=by
 obtain⟨t,k⟩:=x
 cases k with
 |one k=>
  replace hx:(match EI k (gt s t)with
   |some v=>pt b t v λb=>sa s l b
   |none=>.bad)=.ok b':=hx
  split at hx
  ·rename_i v hv
   obtain⟨y,e1,e2⟩:=yl (h.1 t) hv
   obtain⟨b1,e3,e4⟩:=hb.pt t e2
   rw[e3]at hx
   exact⟨y,b1,e1,e4,hx⟩
  ·cases hx
 |agg ks=>
  replace hx:(match gt s t with
   | .agg a=>(match ik ks a with
     |some v=>pt b t (.agg v) λb=>sa s l b
     |none=>.bad)
   |_=>.bad)=.ok b':=hx
  have hv:=h.1 t
  split at hx
  ·rename_i a ha
   rw[ha]at hv
   obtain⟨a',ea,hv⟩:=hv.RU
   split at hx
   ·rename_i v hk
    obtain⟨y,e1,e2⟩:=uX hv hk
    obtain⟨b1,e3,e4⟩:=hb.pt t (Rl.Aw e2)
    rw[e3]at hx
    exact⟨y,b1,by simp only[oR,ea,e1],e4,hx⟩
   ·cases hx
  ·cases hx
 |box ks=>
  replace hx:(match gt s t with
   | .box k o=>bif (Nat.beq k t&&Nat.beq o 0)&&di s.D t ks.length then(match ik ks (MK s t ks.length 0)with
     |some v=>pt b t (.box t 0) λb=>JW v b t 0 λb=>sa s l ⟨b.fr,bif di b.D t ks.length then b.D else(t,ks.length)::b.D⟩
     |none=>.bad)else .bad
   |_=>.bad)=.ok b':=hx
  have hv:=h.1 t
  split at hx
  ·rename_i k o ha
   rw[ha]at hv
   have ea:=hv.IS
   obtain⟨h1,hx⟩:=du hx
   split at hx
   ·rename_i v hk
    obtain⟨y,e1,e2⟩:=uX (h.MK t ks.length 0) hk
    obtain⟨b1,e3,e4⟩:=hb.pt t (Rl.box t 0)
    obtain⟨b2,e5,e6⟩:=e4.JW e2 t 0
    rw[e3,e5]at hx
    refine⟨y,_,?_,?_,hx⟩
    ·simp only[oR,ea]
     rw[<- h.2,h1]
     exact e1
    ·refine⟨e6.1,?_⟩
     show(bif di b2.D t ks.length then b2.D else(t,ks.length)::b2.D)=bif di pb.D t ks.length then pb.D else(t,ks.length)::pb.D
     rw[e6.2]
   ·cases hx
  ·cases hx
theorem FT(h:gA β s p):∀{l:l_} {b b':XS} {pb:bn},gA β b pb->sa s l b=.ok b'->∃v,gJ p l=some v/\gA β b' (nV pb l v)
 |[],b,b',pb,hb,hx=>by
  have:(O.ok b:O XS)=.ok b':=hx
  cases this
  exact⟨(),rfl,hb⟩
 |[x],b,b',pb,hb,hx=>by
  obtain⟨v,b1,e1,e2,e3⟩:=Rg h hb hx
  have:(O.ok b1:O XS)=.ok b':=e3
  cases this
  exact⟨v,e1,e2⟩
 |x::y::l,b,b',pb,hb,hx=>by
  obtain⟨v,b1,e1,e2,e3⟩:=Rg h hb hx
  obtain⟨u,e4,e5⟩:=FT h e2 e3
  exact⟨(v,u),by simp only[gJ,e1,e4],e5⟩
theorem xN(h:gA β s p):∀{l:List (Nat×Nat)},nW s l=true->gD p l=true
 |[],_=>rfl
 |(k,m)::l,hx=>by
  simp only[nW,Bool.and_eq_true]at hx
  simp only[gD,Bool.and_eq_true]
  refine⟨⟨by rw[<- h.2];exact hx.1.1,?_⟩,xN h hx.2⟩
  have hv:=h.1 k
  have h1:=hx.1.2
  unfold CK at h1
  split at h1
  ·rename_i k' o e
   rw[e]at hv
   rw[hv.IS]
   exact h1
  ·cases h1
theorem QU(h:gA β s p)(hb:gA β b pb){c:mf}(hx:za b c s=.ok b'):gD p c.cB=true/\∃v,gJ p c.live=some v/\gA β b' (nV pb c.live v):=by
 unfold za at hx
 cases hs:nW s c.cB with
 |false=>rw[hs]at hx;cases hx
 |true=>rw[hs]at hx;exact⟨xN h hs,FT h hb hx⟩
theorem rM:∀(ts:List Nat) (s:XS),∃s':XS,(∀{γ:Type} (K:XS->γ),xZ ts s K=K s')/\s'.D=s.D/\∀t,gt s' t=if t<65536/\t∈ts then .au else gt s t
 |[],s=>⟨s,λK=>rfl,rfl,λt=>by simp⟩
 |u::ts,s=>by
  have hd:∀{γ:Type} (K:XS->γ),xZ (u::ts) s K=bif Nat.blt u 65536 then pt s u .au λs=>xZ ts s K else xZ ts s K:=λK=>rfl
  cases hu:Nat.blt u 65536 with
  |false=>
   obtain⟨s',e1,e2,e3⟩:=rM ts s
   refine⟨s',λK=>by rw[hd,hu];exact e1 K,e2,λt=>?_⟩
   rw[e3]
   have hn:¬u<65536:=λh=>by
    have:Nat.blt u 65536=true:=Nat.ble_eq_true_of_le h
    rw[hu]at this;cases this
   by_cases h:t<65536/\t∈ts
   ·rw[if_pos h,if_pos ⟨h.1,by simp[h.2]⟩]
   ·rw[if_neg h,if_neg]
    rintro⟨h1,h2⟩
    rcases List.mem_cons.1 h2 with rfl|h2
    ·exact hn h1
    ·exact h ⟨h1,h2⟩
  |true=>
   obtain⟨s1,a1,a2,a3⟩:=tn s u .au
   obtain⟨s',e1,e2,e3⟩:=rM ts s1
   refine⟨s',λK=>by rw[hd,hu];simp only[cond_true];rw[a1];exact e1 K,e2.trans a2,λt=>?_⟩
   rw[e3,a3]
   have hn:u<65536:=Nat.le_of_ble_eq_true hu
   by_cases h:t<65536/\t∈ts
   ·rw[if_pos h,if_pos ⟨h.1,by simp[h.2]⟩]
   ·rw[if_neg h]
    by_cases e:t=u
    ·subst e;rw[if_pos rfl,if_pos ⟨hn,by simp⟩]
    ·rw[if_neg e,if_neg]
     rintro⟨h1,h2⟩
     rcases List.mem_cons.1 h2 with rfl|h2
     ·exact e rfl
     ·exact h ⟨h1,h2⟩
theorem gA.qq(h:gA β s p)(ts:List Nat):∃s':XS,(∀{γ:Type} (K:XS->γ),xZ ts s K=K s')/\gA β s' {p with σ:=tq p.σ ts}:=by
 obtain⟨s',e1,e2,e3⟩:=rM ts s
 refine⟨s',e1,λt=>?_,e2.trans h.2⟩
 rw[e3]
 by_cases hc:t<65536/\t∈ts
 ·rw[if_pos hc];exact .au _
 ·rw[if_neg hc]
  have:tq p.σ ts t=p.σ t:=by
   unfold tq
   cases hb:(Nat.blt t 65536&&bA ts t)with
   |false=>rfl
   |true=>
    simp only[Bool.and_eq_true]at hb
    exact absurd ⟨Nat.le_of_ble_eq_true hb.1,cV.1 hb.2⟩ hc
  show Rl β (gt s t) (tq p.σ ts t)
  rw[this]
  exact h.1 t
theorem gA.cB:∀(l:List (Nat×Nat)) {s:XS} {p:bn},gA β s p->∃s':XS,(∀{γ:Type} (K:XS->γ),Ce l s K=K s')/\gA β s' {p with σ:=pR p.σ l}
 |[],s,p,h=>⟨s,λK=>rfl,h⟩
 |(k,m)::l,s,p,h=>by
  obtain⟨s1,e1,r1⟩:=h.pt k (Rl.box k 0)
  obtain⟨s2,e2,r2⟩:=r1.JW (vs:=List.replicate m .au) (ws:=List.replicate m .au) (bq.same λq hq=>by rw[(List.mem_replicate.1 hq).2];exact .au _) k 0
  obtain⟨s3,e3,r3⟩:=gA.cB l r2
  refine⟨s3,λ{γ} K=>?_,r3⟩
  show Xv.pt s k (.box k 0) (λs=>Xv.JW (List.replicate m .au) s k 0 λs=>Ce l s K)=K s3
  rw[e1,e2,e3]
end
def EOk(β:aU)(bs:Bs)(x:Exit×XS×XW)(Q:Exit->bn->Mem->Prop):Prop:=∀γ p' μ',β.le γ->gA γ x.2.1 p'->fq γ (getM bs x.2.2) μ'->Q x.1 p' μ'
theorem EOk.mono{β γ:aU}{bs:Bs}{x:Exit×XS×XW}{Q:Exit->bn->Mem->Prop}(h:EOk β bs x Q)(hl:β.le γ):EOk γ bs x Q:=λδ p' μ' k=>h δ p' μ' (hl.trans k)
def Xe(β:aU)(bs:Bs)(E:fC)(fz:List Nat)(a:Code)(run:XS->XW->O (Exit×XS×XW)):Prop:=
 ∀γ s w p μ x,β.le γ->gA γ s p->fq γ (getM bs w) μ->run s w=.ok x->∀Q,EOk γ bs x Q->V E fz a Q p μ
noncomputable def Kj(cut:XS->O XS)(body:XS->XW->O (Exit×XS×XW))(n:Nat)(s:XS)(w:XW):O (Exit×XS×XW):=
 O.rec .bad (λx=>match x with
  |(.normal,s,w)=>EU cut body n s w
  |x=>.ok x) (body s w)
theorem xC{c:mf}{J:ua c.live->Mem->Prop}{st:bn}{μ:Mem}{v:ua c.live}(h1:gD st c.cB=true)(h2:gJ st c.live=some v)(h:J v μ):zX c J st μ:=by
 unfold zX
 rw[h1,h2]
 exact h
theorem TZ{β:aU}{bs:Bs}{E:fC}{fz:List Nat}{a:Code}{l:mf}{base:XS}{p:bn}{ws:List Nat}{body:XS->XW->O (Exit×XS×XW)}(hb:gA β base {p with σ:=pR (tq p.σ ws) l.cB})(hr:Xe β bs E fz a body)
  {n:Nat} {s:XS} {w:XW} {x:Exit×XS×XW} (hx:EU (za base l) body n s w=.ok x) {q:bn} {μ:Mem} (hf:gA β s q) (hm:fq β (getM bs w) μ) {Q:Exit->bn->Mem->Prop} (hK:EOk β bs x Q):
  zX l (aj λnext v μ'=>V E fz a (uJ (zX l next) Q) (PE p ws l v) μ') q μ:=by
 have unf:∀{n:Nat} {s:XS} {w:XW},EU (za base l) body n s w=.ok x->∃m s1,n=m+1/\za base l s=.ok s1/\Kj (za base l) body m s1 w=.ok x:=by
  intro n s w h
  cases n with
  |zero=>cases h
  |succ m=>
   replace h:(O.rec .bad (λs1=>Kj (za base l) body m s1 w) (za base l s):O (Exit×XS×XW))=.ok x:=h
   obtain⟨s1,e1,e2⟩:=EH h
   exact⟨m,s1,rfl,e1,e2⟩
 obtain⟨m,s1,rfl,e1,e2⟩:=unf hx
 obtain⟨c1,v,c2,c3⟩:=QU hf hb e1
 refine xC c1 c2 ⟨λn v μ'=>∃γ s1 w1,β.le γ/\gA γ s1 (PE p ws l v)/\fq γ (getM bs w1) μ'/\Kj (za base l) body n s1 w1=.ok x,⟨m,β,s1,w,aU.le.refl β,c3,hm,e2⟩,?_⟩
 rintro n v μ' ⟨γ,s1,w1,hl,hf1,qv,hy⟩
 unfold Kj at hy
 obtain⟨⟨e,s2,w2⟩,Kt,Qd⟩:=EH hy
 refine hr γ s1 w1 _ μ' _ hl hf1 qv Kt _ λδ p' mQ k hf2 lS=>?_
 have other:(O.ok (e,s2,w2):O (Exit×XS×XW))=.ok x->Q e p' mQ:=λh=>by cases h;exact hK δ p' mQ (hl.trans k) hf2 lS
 cases e with
 |normal=>
  obtain⟨m',s3,rfl,f1,f2⟩:=unf Qd
  obtain⟨d1,u,d2,d3⟩:=QU hf2 (hb.mono (hl.trans k)) f1
  simp only[uJ]
  refine xC d1 d2 ?_
  exact⟨m',Nat.lt_succ_self m',δ,s3,w2,hl.trans k,d3,lS,f2⟩
 |_=>exact other Qd
end Go.az.Xv
