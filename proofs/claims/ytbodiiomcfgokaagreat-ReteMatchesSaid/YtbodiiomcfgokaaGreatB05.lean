import Derived.Test.YtbodiiomcfgokaaGreatB04
open Bool (and_eq_true not_eq_true' or_eq_false_iff)
open List (all_eq_true length_append map_cons replicate)
open Nat (add_mul beq ble le_refl le_trans zero_add)
open Option (map_some)
set_option linter.all false
namespace Go.aP
open Go.RowKit
theorem JQ{size sz:Nat}{rows:Lq}(h:qd size sz rows=true):sz=size\/rows=[]:=by
 unfold qd at h;cases hb:beq sz size with
 |true=>exact .inl (beq_iff.1 hb)
 |false=>
  rw[hb]at h;simp only[cond_false]at h;split at h
  ·exact .inr rfl
  ·cases h
theorem Ext.sub{Z Z':Fz}{μ μ' mR:Mem}{N:Nat}(h:Ext Z μ N Z' μ')(hs:mR.sub μ'):Ext Z μ N Z' mR:=
 ⟨h.le,h.zs,h.zn,λb hb=>by
  cases hx:mR b with
  |none=>exact absurd hx hb
  |some o=>exact h.mn b (by rw[hs b o hx];simp),h.lt⟩
theorem bR.size{Z:Fz}{sz size:Nat}{fl:Fl}{rows:Lq}{w:Value}(h:bR Z (.list sz fl rows) w)(hs:qd size sz rows=true):bR Z (.list size fl rows) w:=by
 rcases JQ hs with rfl|rfl
 ·exact h
 ·exact h.ES
theorem LJ{Z:Fz}{sz:Nat}{fl:Fl}{rows:Lq}{w:Value}(h:bR Z (.list sz fl rows) w):∀r∈rows,r.length=sz:=by
 cases h;assumption
theorem UR{P:Program}{e:TypeId}{size bytes zl:Nat}(h:(P.info? e).map (λi=>(i.size,i.bytes,i.zero.map λz=>z.cells.toList.length))=some (size,bytes,some zl)):
  ∃zero:List Value,(P.info? e).map (λi=>(i.size,i.bytes,i.zero.map λz=>z.cells.toList))=some (size,bytes,some zero)/\zero.length=zl:=by
 cases hi:P.info? e with
 |none=>rw[hi]at h;cases h
 |some i=>
  rw[hi]at h;simp only[map_some,Option.some.injEq,Prod.mk.injEq]at h;obtain⟨h1,h2,h3⟩:=h;cases hz:i.zero with
  |none=>rw[hz]at h3;cases h3
  |some z=>
   rw[hz]at h3;simp only[map_some,Option.some.injEq]at h3;exact⟨z.cells.toList,by simp[h1,h2,hz],h3⟩
section
variable {E:kr} {q:Bool} {fz:List Nat} {o:Oper} {p:dw} {s:St} {μ:Mem} {u:UW} {KP:dw->Mem->Prop} {K:St->UW->Prop} {Z:Fz}
theorem KZ{P:Program}{e:TypeId}{size bytes:Nat}{zero:List Value}{fl:Fl}{rows new:Lq}{fy:Fl}{xa yb:Option Addr}{n cap m Pu:Nat}{KF:Fl->Mem->Prop}{KV:Value->UW->Prop}(hg:Good Z u μ)(hw:Wf u)
  (ht:(P.info? e).map (λi=>(i.size,i.bytes,i.zero.map λz=>z.cells.toList))=some (size,bytes,some zero)) (DH:zero.length=size) (N_:size≠0)
  (hx:bR Z (.list size fl rows) (.slice xa n cap)) (hy:bR Z (.list size fy new) (.slice yb m Pu)) (h:aT q size bytes fl rows new μ KF)
  (hK:∀(Z':Fz) (μ':Mem) (jZ:Fl) (v:Value) (u':UW),Ext Z μ u.heap.size Z' μ'->Good Z' u' μ'->Wf u'->u.heap.size<=u'.heap.size->(q=true->Below u.heap.size u.toWorld u'.toWorld)->bR Z' (.list size jZ (rows++new)) v->KF jZ μ'->KV v u'):
  OK P e xa n cap yb m u λa n' c' u'=>KV (.slice a n' c') u':=by
 obtain⟨Vr,pJ,h⟩:=h;obtain⟨_,_,_,ex,Pf,hxc,hxs,hxf⟩:=hx.ofList;cases ex;obtain⟨_,_,_,ey,Me,hyc,hys,hyf⟩:=hy.ofList;cases ey;obtain⟨vx,rx,lx,zx,nx⟩:=tp hg hx (λ_=>N_);obtain⟨vy,ry,ly,zy,ny⟩:=tp hg hy (λ_=>N_);rw[Pf,Me]at Vr pJ;have d_:∀r∈rows++new,r.length=size:=λr hr=>(List.mem_append.1 hr).elim (LJ hx r) (LJ hy r);have Ro:new=[]↔m=0:=by
  constructor
  ·rintro rfl;simpa using Me.symm
  ·intro h0;exact List.eq_nil_of_length_eq_zero (by omega)
 refine⟨size,bytes,zero,vx,vy,ht,zy,λhm=>?_,zx,λhn=>?_,hxc,Vr,pJ,DH,λv hv=>(ry.xo v hv).2,λvo=>?_,λcQ=>?_⟩
 ·obtain⟨b,o,C,rfl,_,hr,_⟩:=ny hm;exact hr
 ·obtain⟨b,o,C,rfl,_,hr,_⟩:=nx hn;exact hr
 ·by_cases hm:m=0
  ·left;refine⟨hm,?_⟩;have:=Ro.2 hm;subst this;exact hK Z μ fl _ u hg.ext hg hw (le_refl _) (λ_=>Below.refl _ _) (by rw[List.append_nil];exact hx) h
  ·right;refine⟨hm,?_⟩;have aQ:new≠[]:=λe=>hm (Ro.1 e);have h:Wg q size fl rows.length new.length μ KF:=by
    unfold aat at h;cases new with
    |nil=>exact absurd rfl aQ
    |cons r rs=>exact h
   cases fl with
   |sh=>exact h.elim
   |nr=>have:cap=n:=hxf;omega
   |nil=>obtain⟨_,h1,h2⟩:xa=none/\n=0/\cap=0:=hxf;omega
   |nh b c=>
    obtain⟨rfl,rfl⟩:xa=some ⟨b,0,none⟩/\cap=c:=hxf;cases q with
    |true=>exact h.elim
    |false=>
     obtain⟨Xa,h⟩:=h;show tQ b (0+n*size) vy u _;rw[zero_add];rw[Pf]at Xa;have hle:n*size+m*size<=cap*size:=by rw[<- add_mul];exact Nat.mul_le_mul_right _ vo
     refine hg.grow Xa (by rw[ly];exact hle) (λw' C hC hCl g1 g2 fw hwf=>?_) hw;have YN:vx=C:=by
      by_cases Pk:n=0
      ·rw[zx Pk];exact(List.eq_nil_of_length_eq_zero (by rw[hCl,Pk];simp)).symm
      ·obtain⟨b',o',C',e1,e2,_,e4⟩:=nx Pk;simp only[Option.some.injEq,Addr.mk.injEq]at e1;obtain⟨rfl,rfl,_⟩:=e1;rw[hC]at e2;cases e2;rw[e4,List.drop_zero,<- hCl,List.take_length]
     have ah5:(μ.set b none).set b (some (.nh ((rows.length+new.length)*size) (cap*size)))=μ.set b (some (.nh (n*size+vy.length) (cap*size))):=by
      funext x;by_cases e:x=b
      ·subst e;simp[Pf,Me,ly,add_mul]
      ·rw[Mem.ax _ _ e,Mem.ax _ _ e,Mem.ax _ _ e]
     have hk:=h b cap (.inl rfl) (by rw[Pf,Me];exact vo);rw[ah5]at hk;refine hK _ _ _ _ _ g2 g1 hwf fw (λh=>by cases h) ?_ hk;have vp:=pX (Z:=Z.set b (C++vy)) (sz:=size) (fl:=.nh b cap) (rows:=rows++new) (vs:=vx++vy) (b:=b) (o:=0) (c:=cap) (C:=C++vy) d_ (by rw[List.flatten_append];exact(rx.mono g2.le).append (ry.mono g2.le)) (Fz.ao _ _ _) (λk _=>by rw[YN,zero_add]) (by rw[length_append,Pf,Me];exact vo) ⟨rfl,rfl⟩;rw[length_append,Pf,Me]at vp;exact vp
 ·intro c b rest w' hc vp hB;have hm:m≠0:=by omega
  have aQ:new≠[]:=λe=>hm (Ro.1 e);have h:Wg q size fl rows.length new.length μ KF:=by
   unfold aat at h;cases new with
   |nil=>exact absurd rfl aQ
   |cons r rs=>exact h
  have hlen:(vx++vy).length=(rows.length+new.length)*size:=by rw[length_append,lx,ly,Pf,Me,add_mul]
  obtain⟨g1,g2,g3⟩:=hg.aef hB (C:=vx++vy) (List.prefix_append _ _) (m:=c*size) (by
   simp only[List.size_toArray,length_append,lx,ly,vp]
   rw[<- add_mul,<- add_mul];exact Nat.mul_le_mul_right _ (by omega))
  rw[hlen]at g1 g2;have eI:bR (Z.set b (vx++vy)) (.list size (.nh b c) (rows++new)) (.slice (some ⟨b,0,none⟩) (n+m) c):=by
   have hr:=pX (Z:=Z.set b (vx++vy)) (sz:=size) (fl:=.nh b c) (rows:=rows++new) (vs:=vx++vy) (b:=b) (o:=0) (c:=c) (C:=vx++vy) d_ (by rw[List.flatten_append];exact(rx.mono g2.le).append (ry.mono g2.le)) (Fz.ao _ _ _) (λk _=>by rw[zero_add]) (by rw[length_append,Pf,Me];exact hc) ⟨rfl,rfl⟩;rw[length_append,Pf,Me]at hr;exact hr
  cases fl with
  |sh=>exact h.elim
  |nr=>exact hK _ _ _ _ _ g2 g1 (hw.born hB) hB.below.size (λ_=>hB.below) eI (h b c g3 (by rw[Pf,Me];exact hc))
  |nil=>exact hK _ _ _ _ _ g2 g1 (hw.born hB) hB.below.size (λ_=>hB.below) eI (h b c g3 (by rw[Pf,Me];exact hc))
  |nh b0 c0=>
   cases q with
   |true=>exact h.elim
   |false=>
    obtain⟨_,h⟩:=h;have ke:((μ.set b0 none).set b (some (Ob.nh ((rows.length+new.length)*size) (c*size)))).sub (μ.set b (some (Ob.nh ((rows.length+new.length)*size) (c*size)))):=by
     intro x ob hx;by_cases e:x=b
     ·subst e;rw[Mem.ao]at hx |-;exact hx
     ·rw[Mem.ax _ _ e]at hx |-;by_cases e':x=b0
      ·subst e';rw[Mem.ao]at hx;cases hx
      ·rw[Mem.ax _ _ e']at hx;exact hx
    exact hK _ _ _ _ _ (g2.sub ke) (g1.sub ke) (hw.born hB) hB.below.size (λ_=>hB.below) eI (h b c (.inr g3) (by rw[Pf,Me];exact hc))
theorem KX{P:Program}{e:TypeId}{size bytes:Nat}{zero:List Value}{y:PV}{xa yb:Option Addr}{n cap m Pu:Nat}{KR:Option Addr->Nat->Nat->Mem->Prop}{KV:Value->UW->Prop}(hg:Good Z u μ)(hw:Wf u)
  (ht:(P.info? e).map (λi=>(i.size,i.bytes,i.zero.map λz=>z.cells.toList))=some (size,bytes,some zero)) (DH:zero.length=size) (N_:size≠0)
  (hy:bR Z y (.slice yb m Pu)) (h:fA size bytes e xa n cap y μ KR)
  (hK:∀(μ':Mem) (a':Option Addr) (n' c':Nat) (u':UW),Ext Z μ u.heap.size Z μ'->Good Z u' μ'->Wf u'->u.heap.size<=u'.heap.size->KR a' n' c' μ'->KV (.slice a' n' c') u'):
  OK P e xa n cap yb m u λa n' c' u'=>KV (.slice a n' c') u':=by
 unfold fA EU at h
 obtain⟨vy,new,jq,zy,ny,Vr,pJ,hnc,h,HJ⟩:∃(vy:List Value) (new:List PV),cF Z new vy/\(m=0->vy=[])/\(m≠0->bp yb λb o=>rd u.heap b o (m*size)=some vy)/\(n+m)*bytes<=140737488355328/\n+m<4611686018427387904/\n<=cap/\((m=0/\(n≠0->∃b o Ct,xa=some ⟨b,o,none⟩/\ay μ b o (n*size)=some Ct)/\KR xa n cap μ)\/(m≠0/\aU new=true/\
  (n+m<=cap->∃b o T cs,xa=some ⟨b,o,none⟩/\μ b=some (.cells T cs)/\o+cap*size<=cs.length/\KR xa (n+m) cap (μ.set b (some (.cells T (dx cs (o+n*size) new)))))/\
  (cap<n+m->∃Ct,((n=0/\Ct=[])\/∃b o,xa=some ⟨b,o,none⟩/\ay μ b o (n*size)=some Ct)/\∀b' c',μ b'=none->n+m<=c'->KR (some ⟨b',0,none⟩) (n+m) c' (μ.set b' (some (.cells e (Ct++new++replicate ((c'-(n+m))*size) .aY)))))))/\(m≠0->vy.length=m*size):=by
  split at h
  ·rename_i sz fl rows;obtain⟨fw,h⟩:=aq h;have Ka:=hy.size fw;obtain⟨_,_,_,ey,Me,_⟩:=Ka.ofList;cases ey;rw[Me]at h;obtain⟨vy,ry,ly,zy,ny⟩:=tp hg Ka (λ_=>N_);exact⟨vy,_,ry.m,zy,λhm=>by obtain⟨b,o,C,rfl,_,hr,_⟩:=ny hm;exact hr,h.1,h.2.1,h.2.2.1,h.2.2.2,λ_=>ly⟩
  ·rename_i b o m' c';have ev:=hy.ofRaw.1;simp only[Value.slice.injEq]at ev;obtain⟨rfl,rfl,rfl⟩:=ev;obtain⟨cs,oB,h⟩:=h;obtain⟨vs,hv,hm⟩:=uV hg oB;have HJ:=Qg hv;refine⟨vs,cs,hm,λh0=>?_,λ_=>hv,h.1,h.2.1,h.2.2.1,h.2.2.2,λ_=>HJ⟩;rw[h0]at HJ;exact List.eq_nil_of_length_eq_zero (by simpa using HJ)
  ·exact h.elim
 rcases h with⟨hm,hold,hk⟩|⟨hm,DN,fE,eZ⟩
 ·by_cases hn:n=0
  ·refine⟨size,bytes,zero,[],vy,ht,zy,ny,λ_=>rfl,λh=>absurd hn h,hnc,Vr,pJ,DH,λv hv=>?_,λ_=>.inl ⟨hm,hK μ xa n cap u hg.ext hg hw (le_refl _) hk⟩,λbI=>by omega⟩;rw[zy hm]at hv;cases hv
  ·obtain⟨b,o,Ct,rfl,dS⟩:=hold hn;obtain⟨vs,hv,_⟩:=uV hg dS;refine⟨size,bytes,zero,vs,vy,ht,zy,ny,λh=>absurd h hn,λ_=>hv,hnc,Vr,pJ,DH,λv hv=>?_,λ_=>.inl ⟨hm,hK μ _ n cap u hg.ext hg hw (le_refl _) hk⟩,λbI=>by omega⟩;rw[zy hm]at hv;cases hv
 ·have hc:=jq.c DN;have HJ:=HJ hm;have Ty:new.length=m*size:=by rw[<- hc.1,HJ]
  by_cases vo:n+m<=cap
  ·obtain⟨b,o,T,cs,rfl,hmb,fw,hk⟩:=fE vo;obtain⟨hp,_,A,hA,hcA⟩:=hg.mem b _ hmb;have Vu:A.size=cs.length:=by have:=hcA.1;simpa using this
   have hle:n*size+m*size<=cap*size:=by rw[<- add_mul];exact Nat.mul_le_mul_right _ vo
   refine⟨size,bytes,zero,if n=0 then[]else(A.toList.drop o).take (n*size),vy,ht,zy,ny,λh=>by simp[h],λh=>?_,hnc,Vr,pJ,DH,λv hv=>(hc.xo v hv).2,λ_=>.inr ⟨hm,?_⟩,λbI=>by omega⟩
   ·rw[if_neg h];exact Aw hA (by omega)
   ·exact hg.store hmb (by rw[Ty];omega) jq λw' hs g1 g2=>hK _ _ _ _ _ g2 g1 (hw.IZ hs) hs.size hk
  ·obtain⟨Ct,hold,hk⟩:=eZ (by omega);have fin:∀vs:List Value,cF Z Ct vs->vs.length=n*size->(n=0->vs=[])->(n≠0->bp xa λb o=>rd u.heap b o (n*size)=some vs)->OK P e xa n cap yb m u λa n' c' u'=>KV (.slice a n' c') u':=by
    intro vs Fg ak0 h0 h1;refine⟨size,bytes,zero,vs,vy,ht,zy,ny,h0,h1,hnc,Vr,pJ,DH,λv hv=>(hc.xo v hv).2,λh=>absurd h vo,λ_ c b rest w' Mr vp hB=>?_⟩
    have ja:cF Z (replicate ((c-(n+m))*size) .aY) rest:=⟨by simp[vp],λi p v hp _=>by
     rw[List.getElem?_replicate]at hp
     split at hp
     ·cases hp;exact .aY _
     ·cases hp⟩
    obtain⟨g1,g2,g3⟩:=hg.born hB (cs:=Ct++new++replicate ((c-(n+m))*size) .aY) ((Fg.append jq).append ja);exact hK _ _ _ _ _ g2 g1 (hw.born hB) hB.below.size (hk b c g3 Mr)
   rcases hold with⟨hn,rfl⟩|⟨b,o,rfl,dS⟩
   ·exact fin [] (cF.nil Z) (by simp[hn]) (λ_=>rfl) (λh=>absurd hn h)
   ·obtain⟨vs,hv,sr⟩:=uV hg dS;have hl:=Qg hv;exact fin vs sr hl (λh0=>List.eq_nil_of_length_eq_zero (by rw[hl,h0];simp)) (λ_=>hv)
theorem OP{P:Program}{e:TypeId}{x y:PV}{xa yb:Option Addr}{n cap m Pu:Nat}{KP:Kq}{KV:Value->UW->Prop}(hg:Good Z u μ)(hw:Wf u)(hx:bR Z x (.slice xa n cap))(hy:bR Z y (.slice yb m Pu))(h:MQ P q e x y μ KP)(hK:MZ q Z μ u KP KV):
  OK P e xa n cap yb m u λa n' c' u'=>KV (.slice a n' c') u':=by
 unfold MQ at h;split at h
 ·rename_i size bytes zl hti;obtain⟨hc,h⟩:=aq h;simp only[and_eq_true,beq_iff,not_eq_true']at hc;obtain⟨zero,ht,DH⟩:=UR hti;have N_:size≠0:=λe=>by
   have:=hc.2;rw[e]at this;cases this
  split at h
  ·rename_i sz fl rows T_ jZ new;obtain⟨oB,h⟩:=aq h;simp only[and_eq_true]at oB;exact KZ hg hw ht (DH.trans hc.1) N_ (hx.size oB.1) (hy.size oB.2) h λZ' μ' jZ v u' e1 e2 e3 e4 e5 e6 e7=>hK Z' μ' _ v u' e1 e2 e3 e4 e5 e6 e7
  ·rename_i a n' c';have ev:=hx.ofRaw.1;simp only[Value.slice.injEq]at ev;obtain⟨rfl,rfl,rfl⟩:=ev;cases q with
   |true=>exact h.elim
   |false=>
    simp only[cond_false]at h;exact KX hg hw ht (DH.trans hc.1) N_ hy h λμ' a' n' c' u' e1 e2 e3 e4 e5=>hK Z μ' _ _ u' e1 e2 e3 e4 (λh=>by cases h) (.raw _ rfl rfl) e5
  ·exact h.elim
 ·exact h.elim
theorem CZ{r:Bool}{x:PV}{v:Value}(h:bR Z x v):bR Z (zR r x) v:=by
 unfold zR;cases r with
 |false=>exact h
 |true=>
  simp only[cond_true];split
  ·obtain⟨a,n,c,rfl,_,_,_,hf⟩:=h.ofList;obtain⟨rfl,rfl,rfl⟩:=hf;exact .raw _ rfl rfl
  ·exact h
theorem Dn{kN:List Nat}{k:Nat}:∀{cs:List PV} {vs:List Value} (i:Nat),bq Z cs vs->bq Z (Qh kN k i cs) vs
 |[],vs,i,h=>h
 |c::cs,vs,i,h=>by
  obtain⟨v,oQ,rfl,hc,hv,hs⟩:=h.inv
  refine bq.cons ?_ (CZ hv) (Dn (i+1) hs);unfold zR;cases cM kN k||cM kN (2000000+1000*k+i)with
  |false=>exact hc
  |true=>
   simp only[cond_true];split
   ·rfl
   ·exact hc
theorem pY{kN:List Nat}{k:Option Nat}{cs:List PV}{vs:List Value}(h:bq Z cs vs):bq Z (Nw kN k cs) vs:=by
 cases k with
 |none=>exact h
 |some k=>exact Dn 0 h
theorem Oo{P:Program}{r:Bool}{t:TypeId}{F:Kq}{G:Value->Prop}{pp:PV}{v:Value}{μ':Mem}{Z':Fz}(hp:bR Z' pp v)(h:Ot P r t λp'=>pp=p'/\F p' μ')(hG:F pp μ'->G v):Pr P t λv'=>v=v'/\G v':=by
 obtain⟨p',⟨rfl,hF⟩,hex⟩:=Oq (Z:=Z') h;exact hex hp ⟨rfl,hG hF⟩
theorem Lp{q:Bool}{KP:dw->Mem->Prop}{K:St->UW->Prop}(hr:df Z p s)(hK:ux q Z μ u KP K)(r:Bool)(t:TypeId):MZ q Z μ u (λv μ'=>Ot E.P r t λv'=>v=v'/\KP (cN o p v') μ') (λv u'=>Pr E.er.P t λv'=>v=v'/\K (fin o s v') u'):=
 λZ' μ' pp v u' e1 e2 e3 e4 e5 e6 e7=>Oo (F:=λp' μ'=>KP (cN o p p') μ') (G:=λv'=>K (fin o s v') u') e6 e7 λhk=>hK Z' _ μ' _ u' ((hr.mono e1.le).fin o e6) e2 e3 e1 e4 e5 hk
theorem lU(hr:df Z p s)(hg:Good Z u μ)(hw:Wf u)(hK:ux q Z μ u KP K)(h:V1 E q fz o p μ KP):W1 E.er fz o s u K:=by
 have hK0:∀p' s',df Z p' s'->KP p' μ->K s' u:=λp' s' h1 h2=>hK Z p' μ s' u h1 hg hw hg.ext (le_refl _) (λ_=>Below.refl _ _) h2;by_cases gf:bx o=true
 ·cases hl:ou o with
  |false=>exact FW hr gf hl hK0 h
  |true=>exact tn hr hg (Fz.le.refl Z) (.inr hg) hl hK0 h
 ·unfold bx at gf;unfold V1 at h;unfold W1;simp only at h |-;cases Ml:o.op<;>simp only[Ml]at h gf |- <;>first|(exact absurd trivial gf)|(exact h.elim)|skip
  case alloc t=>
   cases hz:(E.P.info? t).bind (·.zero)with
   |none=>rw[hz]at h;exact h.elim
   |some z=>
    rw[hz]at h;have NU:(E.er.P.info? t).bind (·.zero)=some z:=hz;rw[NU];obtain⟨aI,h⟩:=aq h;have eI:bR Z (nc E.P t z) z:=(zB Z z).fZ;exact AP hr hg hw hK (pY (eI.cells aI)) h
  case box t x=>
   obtain⟨aI,h⟩:=aq h;have hx:=hr.ev x;rw[hx.plain aI];simp only[cond_true];have eI:=hx.fZ (P:=E.P) (t:=t);exact AP hr hg hw hK (pY (eI.cells (by rw[og];exact aI))) h
  case buildSlice t len ps=>
   obtain⟨hc,h⟩:=aq h;simp only[and_eq_true]at hc;have oA:(ps.toList.all λp=>plain (ev s.σ p.2))=true:=by
    rw[all_eq_true];exact λx hx=>(hr.ev x.2).plain (all_eq_true.1 hc.1 x hx)
   rw[oA,hc.2];simp only[Bool.and_self,cond_true];cases he:vD E.P t with
   |none=>rw[he]at h;exact h.elim
   |some e=>
    rw[he]at h;have Mq:vD E.er.P t=some e:=he;rw[Mq];simp only at h |-;split at h
    ·rename_i rows hb
     obtain⟨w,hwl,eI,hl,vp⟩:=BH (Z:=Z) (vs:=ps.toList.map λp=>(p.1,ev s.σ p.2)) (by simp) (λi x y a b=>by
      rw[List.getElem?_map]at a b
      cases hi:ps.toList[i]? with
      |none=>rw[hi]at a;cases a
      |some z=>
       rw[hi]at a b
       simp only[map_some,Option.some.injEq]at a b
       subst a;subst b
       exact⟨rfl,by rw[og];exact all_eq_true.1 hc.1 z (List.mem_of_getElem? hi),(hr.ev z.2).fZ⟩) hb
     have agr:oG (E.er.P.cellsOf e) 0 (ps.toList.map λp=>(p.1,ev s.σ p.2))=some w:=hwl;rw[agr];obtain⟨hc2,h⟩:=aq h;have ahl:(ble w.length 65536&&((E.er.P.info? e).bind (·.zero)).isSome&& !Nat.beq (E.er.P.cellsOf e) 0)=true:=by rw[eI.1];exact hc2
     simp only[ahl,cond_true];intro b w' hB;cases hwr:abE E o with
     |true=>
      rw[hwr]at h;obtain⟨g1,g2,g3⟩:=hg.born hB (cs:=Nw E.kN o.dst rows.flatten) (pY eI).m;exact hK Z _ _ _ _ (hr.fin o (.raw _ rfl rfl)) g1 (hw.born hB) g2 hB.below.size (λ_=>hB.below) (h b g3)
     |false=>
      rw[hwr]at h;obtain⟨g1,g2⟩:=hg.XJ hB;refine hK _ _ μ _ _ ((hr.mono g2.le).fin o ?_) g1 (hw.born hB) g2 hB.below.size (λ_=>hB.below) h;have hlen:rows.length=len:=by
       have:=beq_iff.1 hc.2;rw[hl,<- this];simp
      have:=pX (Z:=Z.set b w.toArray.toList) (sz:=E.P.cellsOf e) (fl:=.nr) (rows:=rows) (vs:=w) (b:=b) (o:=0) (c:=rows.length) (C:=w) vp (eI.mono g2.le) (Fz.ao _ _ _) (λk _=>by rw[zero_add]) (le_refl _) rfl;rw[hlen]at this;exact this
    ·exact h.elim
  case store t x y=>
   obtain⟨hc,h⟩:=aq h;simp only[and_eq_true,beq_iff]at hc;have hy:=hr.ev y;have hx:=hr.ev x;have eI:=(hy.fZ (P:=E.P) (t:=t)).cells (by rw[og];exact hc.1.1);have fw:(ev s.σ y).cells.size=(fZ E.P t (sy p.σ y)).cells.length:=by have:=eI.1;simpa using this
   have Mr:(plain (ev s.σ y)&&beq (ev s.σ y).cells.size (E.er.P.cellsOf t)&&eB (ev s.σ y).cells.toList&&(E.er.P.info? t).isSome)=true:=by
    have h2:(E.er.P.info? t).isSome=true:=hc.2;rw[hy.plain hc.1.1,fw,hc.1.2,jR eI,h2];have:beq (E.P.cellsOf t) (E.er.P.cellsOf t)=true:=Nat.beq_refl _;rw[this];rfl
   rw[Mr];simp only[cond_true];split at h
   ·rename_i k off he;rw[he]at hx;rw[hx.yz];simp only;rw[<- hr.D];split at h
    ·rename_i m hm;rw[hm];simp only;obtain⟨hb,h⟩:=aq h;rw[fw,hb];simp only[cond_true];exact hK0 {p with σ:=JI (Ej p.σ k off (fZ E.P t (sy p.σ y)).cells) o.dst (.az [])} _ ⟨rfl,fh.put (fh.qX hr.slot eI.m) (bn.uH (vs:=[]) (bn.nil Z))⟩ h
    ·exact h.elim
   ·cases q with
    |true=>exact h.elim
    |false=>
     simp only[cond_false]at h;unfold aN at h;split at h
     ·rename_i b off he;rw[he]at hx;rw[hx.ofRaw.1];show dI (.pointer (some ⟨b,off,none⟩)) _;unfold dI;simp only;obtain⟨T,cs,hm,hl,h⟩:=h;exact hg.store hm hl (pY eI).m λw' hs g1 g2=>hK Z _ _ _ _ (hr.fin o (bn.uH (vs:=[]) (bn.nil Z))) g1 (hw.IZ hs) g2 hs.size (λh=>by cases h) h
     ·exact h.elim
  case makeSlice t x y=>
   have hx:=hr.ev x;have hy:=hr.ev y;split at h
   ·rename_i e k i k' j hu he hj;have gd:E.er.P.underlying t=some (.slice e):=hu;rw[he]at hx;rw[hj]at hy;rw[gd,hx.ofRaw.1,hy.ofRaw.1];simp only;cases hi:E.P.info? e with
    |none=>rw[hi]at h;exact h.elim
    |some inf=>
     rw[hi]at h;have tD:E.er.P.info? e=some inf:=hi;rw[tD];simp only[map_some]at h |-;cases hz:inf.zero with
     |none=>rw[hz]at h;exact h.elim
     |some z=>
      rw[hz]at h;simp only[map_some]at h |-;obtain⟨hc,g1,g2,g3,g4,h⟩:=aq h;simp only[and_eq_true,beq_iff]at hc;have eI:bR Z (nc E.P e z) z:=(zB Z z).fZ;have hrc:bq Z (nc E.P e z).cells z.cells.toList:=by
       cases hk:(nc E.P e z).ok with
       |true=>exact eI.cells hk
       |false=>
        exfalso;have h3:=hc.2;cases hzp:nc E.P e z<;>rw[hzp]at hk h3<;>simp[PV.ok,PV.cell,PV.cells,aU]at hk h3
      have su:(beq z.cells.toList.length inf.size&& !Nat.beq inf.size 0)=true:=by
       rw[hrc.1,hc.1.1,hc.1.2];simp
      rw[su];simp only[cond_true];refine⟨g1,g2,g3,g4,λb w' hB=>?_⟩;have Tx:∀n:Nat,cF Z (replicate n (nc E.P e z).cells).flatten (replicate n z.cells.toList).flatten:=by
       intro n;induction n with
       |zero=>exact cF.nil Z
       |succ n ih=>rw[List.replicate_succ,List.replicate_succ,List.flatten_cons,List.flatten_cons];exact hrc.m.append ih
      obtain⟨d1,d2,d3⟩:=hg.born hB (cs:=(replicate j.toNat (nc E.P e z).cells).flatten) (Tx _);exact hK Z _ _ _ _ (hr.fin o (.raw _ rfl rfl)) d1 (hw.born hB) d2 hB.below.size (λ_=>hB.below) (h b d3)
   ·exact h.elim
  case call c=>
   obtain⟨cal,args,ats⟩:=c;cases cal with
   |builtin b=>
    simp only at h gf |-;unfold V1b at h;unfold W1b;generalize args.toList=al at h |-;generalize ats.toList=tl at h |-;cases b<;>first|(exact absurd rfl gf)|(exact h.elim)|skip
    match al,tl,h with
    |[x,y],[t,t'],h=>
     simp only at h |-;have hx:=CZ (r:=wX E o) (hr.ev x);have hy:=hr.ev y;split at h
     ·rename_i e e' hu Gw;have gd:E.er.P.underlying t=some (.slice e):=hu;have agw:E.er.P.underlying t'=some (.slice e'):=Gw;rw[gd,agw];have sl:∀{pp:PV} {v:Value},bR Z pp v->(∃sz fl rows,pp=.list sz fl rows)\/(∃a n c,pp=.raw (.slice a n c))->∃a n c,v=.slice a n c:=by
       rintro pp v hv (⟨sz,fl,rows,rfl⟩|⟨a,n,c,rfl⟩)
       ·obtain⟨a,n,c,rfl,_⟩:=hv.ofList;exact⟨a,n,c,rfl⟩
       ·exact⟨a,n,c,hv.ofRaw.1⟩
      have Tw:((∃sz fl rows,zR (wX E o) (sy p.σ x)=.list sz fl rows)\/(∃a n c,zR (wX E o) (sy p.σ x)=.raw (.slice a n c)))/\((∃sz fl rows,sy p.σ y=.list sz fl rows)\/(∃a n c,sy p.σ y=.raw (.slice a n c))):=by
       unfold MQ at h;split at h
       ·obtain⟨_,h⟩:=aq h;split at h
        ·rename_i e1 e2;exact⟨.inl ⟨_,_,_,e1⟩,.inl ⟨_,_,_,e2⟩⟩
        ·rename_i e1;refine⟨.inr ⟨_,_,_,e1⟩,?_⟩;cases q with
         |true=>exact h.elim
         |false=>
          simp only[cond_false]at h;unfold fA EU at h;split at h
          ·rename_i e2;exact .inl ⟨_,_,_,e2⟩
          ·rename_i e2;exact .inr ⟨_,_,_,e2⟩
          ·exact h.elim
        ·exact h.elim
       ·exact h.elim
      obtain⟨xa,n,cap,hxv⟩:=sl hx Tw.1;obtain⟨yb,m,yc,hyv⟩:=sl hy Tw.2;rw[hxv,hyv];rw[hxv]at hx;rw[hyv]at hy;simp only;exact OP (KV:=λv u'=>K (fin o s v) u') hg hw hx hy h λZ' μ' pp v u' e1 e2 e3 e4 e5 e6 e7=>hK Z' _ μ' _ u' ((hr.mono e1.le).fin o e6) e2 e3 e1 e4 e5 e7
     ·exact h.elim
    |[],_,h=>exact h.elim
    |[_],_,h=>exact h.elim
    |[_,_],[],h=>exact h.elim
    |[_,_],[_],h=>exact h.elim
    |[_,_],_::_::_::_,h=>exact h.elim
    |_::_::_::_,_,h=>exact h.elim
   |value f=>
    simp only at h |-;obtain⟨hc,h⟩:=aq h;rw[kS hr hc];simp only[cond_true];exact Cg.v hg hw (hr.ev f) (IE hr hc).sA h (Lp (E:=E) hr hK (wX E o) o.type)
   |invoke x name=>
    simp only at h |-;obtain⟨hc,h⟩:=aq h;rw[kS hr hc];simp only[cond_true];have hx:=hr.ev x;split at h
    ·rename_i t pp he;rw[he]at hx;cases YN:ev s.σ x with
     |iface t' v=>
      rw[YN]at hx;cases hx with
      |iface _ _ _ hk hv=>
       simp only;split at h
       ·rename_i g r' hm;obtain⟨fR,h⟩:=h;have adE:pv E.er.P (method (E.er.P.types.size+Made.depth) t v name)=some (g,v):=fR v;rw[adE];simp only;have:=Cg.v (fv:=.func (.func g) #[] #[]) (vs:=v::args.toList.map (ev s.σ)) hg hw (bn.Eo (fv:=[]) (cv:=[]) (bn.nil Z) (bn.nil Z)) (bn.cons (by rw[Jj];exact hk) hv.yW (IE hr hc).sA) h (Lp (E:=E) hr hK (wX E o) o.type);have h2:(bif dv E.P g then nR E.P g ((#[]:Array Value).toList++(v::args.toList.map (ev s.σ))++(#[]:Array Value).toList).toArray u (λv u'=>Pr E.er.P o.type λv'=>v=v'/\K (fin o s v') u')else False):=this;obtain⟨hY,h3⟩:=aq h2;have ahj:dv E.er.P g=true:=hY;rw[ahj];simp only[cond_true];show nR E.P g _ u _;simpa using h3
       ·exact h.elim
     |_=>rw[YN]at hx;cases hx
    ·exact h.elim
end
section
variable {E:kr} {fz:List Nat} {ops:Array Oper}
theorem ux.step{Z Z1:Fz}{μ μ1:Mem}{u u1:UW}{KP:dw->Mem->Prop}{K:St->UW->Prop}(h:ux false Z μ u KP K)(e:Ext Z μ u.heap.size Z1 μ1)(hN:u.heap.size<=u1.heap.size):ux false Z1 μ1 u1 KP K:=
 λZ' p' μ' s' u' r g w e' n _ k=>h Z' p' μ' s' u' r g w (e.trans e' hN) (le_trans hN n) (λh=>by cases h) k
theorem jg(Z:Fz):bR Z (.az []) undef:=bn.uH (vs:=[]) (bn.nil Z)
theorem Tm{E:Env}{fz:List Nat}{o:Oper}{s:St}{u:UW}{K:St->UW->Prop}(h:W1 E fz o s u K):Wk E fz o s u K:=by
 unfold Wk;split
 ·rename_i t x y t' ho;cases hb:vN (ev s.σ x) (ev s.σ y)with
  |false=>exact h
  |true=>
   exfalso;unfold W1 at h;simp only[ho]at h;unfold vN at hb;split at hb
   ·rename_i a1 a2 e1 e2;rw[e1,e2]at h;exact h
   ·cases hb
 ·exact h
theorem DD{Z:Fz}{u:UW}{μ:Mem}(hg:Good Z u μ){b:Nat}(h:QJ μ b):∃(c:Array Value) (T:TypeId),u.heap[b]?=some (.cells c T (0,0))/\c.size≠0:=by
 obtain⟨T,cs,hm,aQ⟩:=h;obtain⟨_,_,A,hA,hc⟩:=hg.mem b _ hm;refine⟨A,T,hA,λe=>aQ ?_⟩;have:A.size=cs.length:=by have:=hc.1;simpa using this
 exact List.eq_nil_of_length_eq_zero (by omega)
theorem OX{Z:Fz}{o:Oper}{p:dw}{s:St}{μ:Mem}{u:UW}{KP:dw->Mem->Prop}{K:St->UW->Prop}(hr:df Z p s)(hg:Good Z u μ)(hw:Wf u)(hK:ux false Z μ u KP K)(h:V1x E fz o p μ KP):Wk E.er fz o s u K:=by
 unfold V1x at h;split at h
 ·rename_i t x y t' ho;cases hb:(Mc (sy p.σ x)&&Mc (sy p.σ (.tmp y)))with
  |true=>
   rw[hb]at h;simp only[cond_true]at h;obtain⟨fw,h⟩:=aq h;unfold JJ at h;split at h
   ·rename_i b o1 b' o2 ex ey;obtain⟨l1,l2,h⟩:=h;have hx:=hr.ev x;have hy:=hr.ev (.tmp y);rw[ex]at hx;rw[ey]at hy;have ex':=hx.ofRaw.1;have ey':=hy.ofRaw.1;unfold Wk;simp only[ho];rw[ex',ey'];simp only[vN,cond_true];unfold JK;simp only;have NZ:∃e,E.P.underlying t=some (.pointer e)/\sized E.P e=true:=by
     cases hu:E.P.underlying t with
     |none=>rw[hu]at fw;cases fw
     |some d=>
      rw[hu]at fw;cases d<;>first|(cases fw;done)|exact⟨_,rfl,fw⟩
    obtain⟨e,hu,hi⟩:=NZ;have gd:E.er.P.underlying t=some (.pointer e):=hu;have tD:sized E.er.P e=true:=hi;rw[gd];simp only;rw[tD];exact⟨DD hg l1,DD hg l2,hK Z _ μ _ u (hr.fin o (.raw _ rfl rfl)) hg hw hg.ext (le_refl _) (λh=>by cases h) h⟩
   ·exact h.elim
  |false=>rw[hb]at h;exact Tm (lU hr hg hw hK h)
 ·exact Tm (lU hr hg hw hK h)
theorem vP{QP:dw->Mem->Prop}{Q:St->UW->Prop}:∀(l:List Oper) (p:dw) (s:St) (μ:Mem) (u:UW) (Z:Fz),df Z p s->Good Z u μ->Wf u->ux false Z μ u QP Q->Vl E fz ops QP l p μ->Wl E.er fz ops Q l s u
 |[],p,s,μ,u,Z,hr,hg,hw,hC,h=>hC Z p μ s u hr hg hw hg.ext (le_refl _) (λh=>by cases h) h
 |o::l,p,s,μ,u,Z,hr,hg,hw,hC,h=>by
  have aio:∀{p1:dw} {s1:St},df Z p1 s1->V1x E fz o p1 μ (λp' μ'=>Vl E fz ops QP l p' μ')->Wk E.er fz o s1 u (λs' u'=>Wl E.er fz ops Q l s' u'):=λPh h1=>
   OX Ph hg hw (λZ' p' μ' s' u' r g w e n _ k=>vP l p' s' μ' u' Z' r g w (hC.step e n) k) h1
  have act:∀{p1:dw} {s1:St},df Z p1 s1->V1 E false fz o p1 μ (λp' μ'=>Vl E fz ops QP l p' μ')->W1 E.er fz o s1 u (λs' u'=>Wl E.er fz ops Q l s' u'):=λPh h1=>
   lU Ph hg hw (λZ' p' μ' s' u' r g w e n _ k=>vP l p' s' μ' u' Z' r g w (hC.step e n) k) h1
  have skip:∀{p1:dw} {s1:St},df Z p1 s1->Vl E fz ops QP l (cN o p1 (.az [])) μ->Wl E.er fz ops Q l (fin o s1 undef) u:=λPh h1=>
   vP l _ _ μ u Z (Ph.fin o (jg Z)) hg hw hC h1
  simp only[Vl]at h;simp only[Wl];cases hgd:o.guard with
  |none=>rw[hgd]at h;exact aio hr h
  |some jb=>
   obtain⟨j,b⟩:=jb;rw[hgd]at h;simp only at h |-;cases xx:oV ops j with
   |none=>rw[xx]at h;exact h.elim
   |some g=>
    rw[xx]at h;simp only at h |-;have hs:=hr.slot g;split at h
    ·rename_i c he;rw[he]at hs;rw[hs.ofRaw.1];simp only;have hT:df Z {p with σ:=aH p.σ g (pB true)} {s with σ:=iM s.σ g (.bool true)}:=⟨hr.D,fh.iM hr.slot (.raw _ rfl rfl)⟩;have hF:df Z {p with σ:=aH p.σ g (pB false)} {s with σ:=iM s.σ g (.bool false)}:=⟨hr.D,fh.iM hr.slot (.raw _ rfl rfl)⟩;cases c<;>cases b
     ·exact act hF h
     ·exact skip hF h
     ·exact skip hT h
     ·exact act hT h
    ·rename_i vs he;rw[he]at hs;obtain⟨ws,hv,_⟩:=hs.AK;rw[hv];exact skip hr h
    ·exact h.elim
def TF(ops:Array Oper):iT->Prop
 | .nil=>True
 | .tk i p=>(∀o,ops[i]?=some o->bx o=true)/\TF ops p
 | .ef i p=>bK ops i p=true/\TF ops p
 | .Se i p j q=>(bK ops i p=true/\TF ops p)/\(bK ops j q=true/\TF ops q)
 | .Sd i p j q k r=>(bK ops i p=true/\TF ops p)/\(bK ops j q=true/\TF ops q)/\(bK ops k r=true/\TF ops r)
theorem qA{af:Array Bool}:∀{l:List Nat} {i:Nat},iG ops af l=some i->∀o,ops[i]?=some o->bx o=true
 |[],i,h=>by simp[iG]at h
 |j::l,i,h=>by
  simp only[iG]at h
  intro o ho
  cases ho2:ops[j]? with
  |none=>rw[ho2]at h;exact qA h o ho
  |some oj=>
   rw[ho2]at h
   simp only at h
   cases hc:(bx oj&&Region.free .any ops af j)with
   |true=>
    rw[hc]at h
    simp only[cond_true,Option.some.injEq]at h
    subst h
    rw[ho]at ho2;cases ho2
    simp only[and_eq_true]at hc
    exact hc.1
   |false=>rw[hc]at h;exact qA h o ho
theorem jK:∀{f:Nat} {af:Array Bool} {p:iT},eo ops f af=some p->TF ops p
 |0,af,p,h=>by
  simp only[eo]at h
  split at h
  ·cases h;trivial
  ·cases h
 |f+1,af,p,h=>by
  simp only[eo]at h
  split at h
  ·cases h;trivial
  ·split at h
   ·rename_i j hj
    split at h
    ·rename_i p' hp;cases h;exact⟨qA hj,jK hp⟩
    ·cases h
   ·split at h
    ·split at h
     ·rename_i p' hp
      cases hc:bK ops _ p' with
      |true=>rw[hc]at h;cases h;exact⟨hc,jK hp⟩
      |false=>rw[hc]at h;cases h
     ·cases h
    ·split at h
     ·rename_i p' q' hp hq
      cases hc:(bK ops _ p'&&bK ops _ q')with
      |true=>
       rw[hc]at h;cases h
       simp only[and_eq_true]at hc
       exact⟨⟨hc.1,jK hp⟩,hc.2,jK hq⟩
      |false=>rw[hc]at h;cases h
     ·cases h
    ·split at h
     ·rename_i p' q' r' hp hq hr
      cases hc:(bK ops _ p'&&bK ops _ q'&&bK ops _ r')with
      |true=>
       rw[hc]at h;cases h
       simp only[and_eq_true]at hc
       exact⟨⟨hc.1.1,jK hp⟩,⟨hc.1.2,jK hq⟩,hc.2,jK hr⟩
      |false=>rw[hc]at h;cases h
     ·cases h
    ·cases h
theorem mL{Z:Fz}{o:Oper}{p:dw}{s:St}{ael Wy:dw->Prop}{act skip:St->Prop}(hr:df Z p s)(ha:∀p1 s1,df Z p1 s1->ael p1->act s1)(hs:∀p1 s1,df Z p1 s1->Wy p1->skip s1)(h:qy ops o p ael Wy):guarded ops o s act skip:=by
 unfold qy at h;unfold guarded;cases hgd:o.guard with
 |none=>rw[hgd]at h;exact ha _ _ hr h
 |some jb=>
  obtain⟨j,b⟩:=jb;rw[hgd]at h;simp only at h |-;cases xx:oV ops j with
  |none=>rw[xx]at h;exact h.elim
  |some g=>
   rw[xx]at h;simp only at h |-;have YQ:=hr.slot g;split at h
   ·rename_i c he;rw[he]at YQ;rw[YQ.ofRaw.1];simp only;have hT:df Z {p with σ:=aH p.σ g (pB true)} {s with σ:=iM s.σ g (.bool true)}:=⟨hr.D,fh.iM hr.slot (.raw _ rfl rfl)⟩;have hF:df Z {p with σ:=aH p.σ g (pB false)} {s with σ:=iM s.σ g (.bool false)}:=⟨hr.D,fh.iM hr.slot (.raw _ rfl rfl)⟩;cases c<;>cases b
    ·exact ha _ _ hF h
    ·exact hs _ _ hF h
    ·exact hs _ _ hT h
    ·exact ha _ _ hT h
   ·rename_i vs he;rw[he]at YQ;obtain⟨ws,hv,_⟩:=YQ.AK;rw[hv];exact hs _ _ hr h
   ·exact h.elim
theorem aaz{q q':Bool}{fz ZE:List Nat}{o:Oper}{p:dw}{μ:Mem}{K:dw->Mem->Prop}(hn:qo o=true)(hp:gY E.eX o=false)(h:V1 E q fz o p μ K):V1 E q' ZE o p μ K:=by
 unfold qo at hn;unfold gY at hp;unfold V1 at h |-;split at hn
 ·rename_i t ho;simp only[ho]at h hp |-;cases hz:(E.P.info? t).bind (·.zero)with
  |none=>rw[hz]at h;exact h.elim
  |some z=>
   rw[hz]at h;simp only at h |-;obtain⟨h1,h⟩:=aq h;rw[h1];simp only[cond_true];unfold NH at h |-;cases hd:o.dst with
   |none=>rw[hd]at h;exact h.elim
   |some k=>
    rw[hd]at h hp;simp only at h hp |-;rw[hp]at h |-;exact h
 ·rename_i t x ho;simp only[ho]at h hp |-;obtain⟨h1,h⟩:=aq h;rw[h1];simp only[cond_true];unfold NH at h |-;cases hd:o.dst with
  |none=>rw[hd]at h;exact h.elim
  |some k=>
   rw[hd]at h hp;simp only at h hp |-;rw[hp]at h |-;exact h
 ·rename_i t len ps ho;simp only[ho]at h |-;exact h
 ·cases hn
theorem HC{Z:Fz}{u0:UW}{o:Oper}{p:dw}{s:St}{μ0 μ:Mem}{u:UW}{fz:List Nat}{KP:dw->Mem->Prop}{K:St->UW->Prop}(hr:df Z p s)(hg:Good Z u μ)(hw:Wf u)(Mm:∀b,μ b≠none->μ0 b≠none\/u0.heap.size<=b)(jO:rF u0 u)
  (hK:∀Z' p' μ' s' u',df Z' p' s'->Good Z' u' μ'->Wf u'->Ext Z μ u.heap.size Z' μ'->u.heap.size<=u'.heap.size->rF u0 u'->KP p' μ'->K s' u')
  (h:QL E fz o p μ0 μ KP):W1 E.er fz o s u K:=by
 have base:V1 E true fz o p μ KP->W1 E.er fz o s u K:=λh1=>lU hr hg hw (λZ' p' μ' s' u' a1 a2 a3 a4 a5 a6 a7=>hK Z' p' μ' s' u' a1 a2 a3 a4 a5 (xO jO (a6 rfl)) a7) h1;unfold QL at h;split at h
 ·rename_i t x y ho;split at h
  ·rename_i b off he;obtain⟨h0,h⟩:=h;unfold V1 at h;unfold W1;simp only[ho]at h |-;obtain⟨hc,h⟩:=aq h;simp only[and_eq_true,beq_iff]at hc;have hy:=hr.ev y;have hx:=hr.ev x;have eI:=(hy.fZ (P:=E.P) (t:=t)).cells (by rw[og];exact hc.1.1);have fw:(ev s.σ y).cells.size=(fZ E.P t (sy p.σ y)).cells.length:=by have:=eI.1;simpa using this
   have Mr:(plain (ev s.σ y)&&beq (ev s.σ y).cells.size (E.er.P.cellsOf t)&&eB (ev s.σ y).cells.toList&&(E.er.P.info? t).isSome)=true:=by
    have h2:(E.er.P.info? t).isSome=true:=hc.2;rw[hy.plain hc.1.1,fw,hc.1.2,jR eI,h2];have:beq (E.P.cellsOf t) (E.er.P.cellsOf t)=true:=Nat.beq_refl _;rw[this];rfl
   rw[Mr];simp only[cond_true];rw[he]at hx h;rw[hx.ofRaw.1];show dI (.pointer (some ⟨b,off,none⟩)) _;unfold dI;simp only;simp only[cond_false]at h;unfold aN at h;simp only at h;obtain⟨T,cs,hm,hl,h⟩:=h;have hb:u0.heap.size<=b:=(Mm b (by rw[hm];simp)).resolve_left λhn=>hn h0;exact hg.store hm hl (pY eI).m λw' hs g1 g2=>hK Z _ _ _ _ (hr.fin o (bn.uH (vs:=[]) (bn.nil Z))) g1 (hw.IZ hs) g2 hs.size ⟨hs.os.trans jO.os,hs.tape.trans jO.tape,hs.output.trans jO.output,le_trans jO.size hs.size,λc hc=>(hs.ne c (by omega) (Nat.lt_of_lt_of_le hc jO.size)).trans (jO.block c hc)⟩ h
  ·exact base h
 ·exact base h
theorem gm{Z:Fz}{u0:UW}{μ0:Mem}{i:Nat}{p:dw}{s:St}{μ:Mem}{u:UW}{KP:dw->Mem->Prop}{K:St->UW->Prop}(hr:df Z p s)(hg:Good Z u μ)(hw:Wf u)(Mm:∀b,μ b≠none->μ0 b≠none\/u0.heap.size<=b)(jO:qx ops i=true->rF u0 u)
  (hK:∀Z' p' μ' s' u',df Z' p' s'->Good Z' u' μ'->Wf u'->Ext Z μ u.heap.size Z' μ'->u.heap.size<=u'.heap.size->(qx ops i=true->rF u0 u')->(ET ops i=true->rF u0 u->rF u0 u')->KP p' μ'->K s' u')
  (h:pT E fz ops μ0 i p μ KP):sa E.er fz ops u0 i s u K:=by
 unfold pT at h;unfold sa;cases ho:ops[i]? with
 |none=>rw[ho]at h;exact h.elim
 |some o=>
  rw[ho]at h;simp only at h |-;have kZ:gY E.er.eX o=gY E.eX o:=rfl;rw[kZ];cases hp:gY E.eX o with
  |true=>rw[hp]at h;exact h.elim
  |false=>
   rw[hp]at h;simp only[cond_false]at h |-;refine mL hr (λp1 s1 r1 h1=>?_) (λp1 s1 r1 h1=>?_) h
   ·cases hl:qx ops i with
    |true=>
     rw[hl]at h1;simp only[cond_true]at h1 |-;rw[r1.D]at h1;refine HC r1 hg hw Mm (jO hl) (λZ' p' μ' s' u' a1 a2 a3 a4 a5 Pg a7=>?_) h1;exact⟨Pg,hK Z' p' μ' s' u' a1 a2 a3 a4 a5 (λ_=>Pg) (λ_ _=>Pg) a7⟩
    |false=>
     rw[hl]at h1;simp only[cond_false]at h1 |-;cases hn:ET ops i with
     |true=>
      have hnw:qo o=true:=by unfold ET at hn;rw[ho]at hn;exact hn
      exact lU r1 hg hw (λZ' p' μ' s' u' a1 a2 a3 a4 a5 a6 a7=>hK Z' p' μ' s' u' a1 a2 a3 a4 a5 (λh=>by rw[hl]at h;cases h) (λ_ hs=>xO hs (a6 rfl)) a7) (aaz hnw hp h1)
     |false=>
      exact lU r1 hg hw (λZ' p' μ' s' u' a1 a2 a3 a4 a5 a6 a7=>hK Z' p' μ' s' u' a1 a2 a3 a4 a5 (λh=>by rw[hl]at h;cases h) (λh=>by rw[hn]at h;cases h) a7) h1
   ·exact hK Z _ μ _ u (r1.fin o (jg Z)) hg hw hg.ext (le_refl _) jO (λ_ hs=>hs) h1
theorem xQ{i:Nat}{pl pl':iT}{u0 u u':UW}(aI:bK ops i pl=true)(jO:rF u0 u\/bM ops pl'=false)(hr:bM ops pl'=false->bM ops pl=false)(a6:qx ops i=true->rF u0 u')(a8:ET ops i=true->rF u0 u->rF u0 u'):rF u0 u'\/bM ops pl=false:=by
 unfold bK at aI;cases hl:qx ops i with
 |true=>exact .inl (a6 hl)
 |false=>
  cases hn:ET ops i with
  |true=>exact jO.imp (a8 hn) hr
  |false=>
   simp only[hl,hn,Bool.false_or,and_eq_true,not_eq_true']at aI;exact .inr aI.2
theorem jV{QP:dw->Mem->Prop}{Q:St->UW->Prop}{Z0:Fz}{u0:UW}{μ0:Mem}(Xg:Good Z0 u0 μ0):∀(pl:iT) (c:Bool) (p:dw) (s:St) (μ:Mem) (u:UW) (Z:Fz),TF ops pl->df Z p s->Good Z u μ->Wf u->Z0.le Z->Ext Z0 μ0 u0.heap.size Z μ->u0.heap.size<=u.heap.size->(c=true->Good Z u0 μ0)->(rF u0 u\/bM ops pl=false)->
  ux false Z μ u QP Q->Vd E fz ops μ0 QP c pl p μ->Wd E.er fz ops u0 Q pl s u
 | .nil,c,p,s,μ,u,Z,_,hr,hg,hw,_,_,_,_,_,hC,h=>hC Z p μ s u hr hg hw hg.ext (le_refl _) (λh=>by cases h) h
 | .tk i pl,c,p,s,μ,u,Z,aI,hr,hg,hw,hz,hx,hN,hc,jO,hC,h=>by
   simp only[Vd,wQ]at h
   simp only[Wd,stepT]
   cases ho:ops[i]? with
   |none=>rw[ho]at h;exact h.elim
   |some o=>
    rw[ho]at h
    simp only at h |-
    have next:∀p' s',df Z p' s'->Vd E fz ops μ0 QP c pl p' μ->Wd E.er fz ops u0 Q pl s' u:=λp' s' r k=>jV Xg pl c p' s' μ u Z aI.2 r hg hw hz hx hN hc jO hC k
    refine mL hr (λp1 s1 r1 h1=>?_) (λp1 s1 r1 h1=>next _ _ (r1.fin o (jg Z)) h1) h;obtain⟨hcf,h1⟩:=aq h1;cases hl:ou o with
    |false=>exact FW (KP:=λp' _=>Vd E fz ops μ0 QP c pl p' μ) (K:=λs' _=>Wd E.er fz ops u0 Q pl s' u) r1 (aI.1 o ho) hl next h1
    |true=>
     refine tn (KP:=λp' _=>Vd E fz ops μ0 QP c pl p' μ) (K:=λs' _=>Wd E.er fz ops u0 Q pl s' u) (Zr:=Z0) r1 Xg hz ?_ hl next h1
     cases c with
     |true=>exact .inr (hc rfl)
     |false=>simp only[Bool.false_or,not_eq_true']at hcf;exact .inl hcf
 | .ef i pl,c,p,s,μ,u,Z,aI,hr,hg,hw,hz,hx,hN,hc,jO,hC,h=>by
   have ok1:=aI.1;refine gm hr hg hw hx.mn (λhl=>jO.elim id λhn=>?_) (λZ' p' μ' s' u' a1 a2 a3 a4 a5 a6 a8 a7=>jV Xg pl false p' s' μ' u' Z' aI.2 a1 a2 a3 (hz.trans a4.le) (hx.trans a4 hN) (le_trans hN a5) (λh=>by cases h) ?_ (hC.step a4 a5) a7) h
   ·simp only[bM,hl,Bool.true_or]at hn;cases hn
   ·exact xQ ok1 jO (λhn=>by simp only[bM,or_eq_false_iff]at hn;exact hn.2) a6 a8
 | .Se i pl j pl2,c,p,s,μ,u,Z,aI,hr,hg,hw,hz,hx,hN,hc,jO,hC,h=>by
   obtain⟨⟨ok1,Yz⟩,ok2,Yy⟩:=aI
   refine⟨gm hr hg hw hx.mn (λhl=>jO.elim id λhn=>?_) (λZ' p' μ' s' u' a1 a2 a3 a4 a5 a6 a8 a7=>jV Xg pl false p' s' μ' u' Z' Yz a1 a2 a3 (hz.trans a4.le) (hx.trans a4 hN) (le_trans hN a5) (λh=>by cases h) ?_ (hC.step a4 a5) a7) h.1,
    gm hr hg hw hx.mn (λhl=>jO.elim id λhn=>?_) (λZ' p' μ' s' u' a1 a2 a3 a4 a5 a6 a8 a7=>jV Xg pl2 false p' s' μ' u' Z' Yy a1 a2 a3 (hz.trans a4.le) (hx.trans a4 hN) (le_trans hN a5) (λh=>by cases h) ?_ (hC.step a4 a5) a7) h.2⟩
   ·simp only[bM,hl,Bool.true_or]at hn;cases hn
   ·exact xQ ok1 jO (λhn=>by simp only[bM,or_eq_false_iff]at hn;exact hn.1.2) a6 a8
   ·simp only[bM,hl,Bool.true_or,Bool.or_true]at hn;cases hn
   ·exact xQ ok2 jO (λhn=>by simp only[bM,or_eq_false_iff]at hn;exact hn.2.2) a6 a8
 | .Sd i pl j pl2 k pl3,c,p,s,μ,u,Z,aI,hr,hg,hw,hz,hx,hN,hc,jO,hC,h=>by
   obtain⟨⟨ok1,Yz⟩,⟨ok2,Yy⟩,ok3,af9⟩:=aI
   refine⟨gm hr hg hw hx.mn (λhl=>jO.elim id λhn=>?_) (λZ' p' μ' s' u' a1 a2 a3 a4 a5 a6 a8 a7=>jV Xg pl false p' s' μ' u' Z' Yz a1 a2 a3 (hz.trans a4.le) (hx.trans a4 hN) (le_trans hN a5) (λh=>by cases h) ?_ (hC.step a4 a5) a7) h.1,
    gm hr hg hw hx.mn (λhl=>jO.elim id λhn=>?_) (λZ' p' μ' s' u' a1 a2 a3 a4 a5 a6 a8 a7=>jV Xg pl2 false p' s' μ' u' Z' Yy a1 a2 a3 (hz.trans a4.le) (hx.trans a4 hN) (le_trans hN a5) (λh=>by cases h) ?_ (hC.step a4 a5) a7) h.2.1,
    gm hr hg hw hx.mn (λhl=>jO.elim id λhn=>?_) (λZ' p' μ' s' u' a1 a2 a3 a4 a5 a6 a8 a7=>jV Xg pl3 false p' s' μ' u' Z' af9 a1 a2 a3 (hz.trans a4.le) (hx.trans a4 hN) (le_trans hN a5) (λh=>by cases h) ?_ (hC.step a4 a5) a7) h.2.2⟩
   ·simp only[bM,hl,Bool.true_or]at hn;cases hn
   ·exact xQ ok1 jO (λhn=>by simp only[bM,or_eq_false_iff]at hn;exact hn.1.1.2) a6 a8
   ·simp only[bM,hl,Bool.true_or,Bool.or_true]at hn;cases hn
   ·exact xQ ok2 jO (λhn=>by simp only[bM,or_eq_false_iff]at hn;exact hn.1.2.2) a6 a8
   ·simp only[bM,hl,Bool.true_or,Bool.or_true]at hn;cases hn
   ·exact xQ ok3 jO (λhn=>by simp only[bM,or_eq_false_iff]at hn;exact hn.2.2) a6 a8
def TD(ops:Array Oper):im->Prop
 | .nil=>True
 | .tk i q=>(∀o,ops[i]?=some o->bx o=true)/\TD ops q
 | .ld i q r=>(∀o,ops[i]?=some o->bx o=true)/\TD ops q/\TD ops r
 | .alt _ q r=>TD ops q/\TD ops r
 | .done=>True
theorem PG{af:Array Bool}{de:List Nat}:∀{l:List Nat} {i:Nat},zT ops af de l=some i->∀o,ops[i]?=some o->bx o=true:=λh o ho=>by
 obtain⟨_,oj,gM,gf,_⟩:=zS _ h;rw[ho]at gM;cases gM;exact gf
theorem QI{af:Array Bool}{de:List Nat}:∀{l:List Nat} {i:Nat},AX ops af de l=some i->∀o,ops[i]?=some o->bx o=true:=λh o ho=>by
 obtain⟨_,oj,gM,gf,_⟩:=AW _ h;rw[ho]at gM;cases gM;exact gf
theorem BO{de:List Nat}{g:Nat->Option im}(hg:∀i q,g i=some q->TD ops q):∀{l:List Nat} {q:im},yS ops de g l=some q->TD ops q
 |[],q,h=>by cases h;trivial
 |i::l,q,h=>by
  simp only[yS]at h
  cases hb:cM de i with
  |true=>rw[hb]at h;exact BO hg h
  |false=>
   rw[hb]at h
   simp only[cond_false]at h
   cases ht:TV ops i true with
   |true=>rw[ht]at h;cases h
   |false=>
    rw[ht]at h
    simp only[cond_false]at h
    split at h
    ·cases h
    ·rename_i qi hi
     split at h
     ·cases h
     ·rename_i r hl;cases h;exact⟨hg _ _ hi,BO hg hl⟩
theorem qb:∀{g:Nat} {af:Array Bool} {de:List Nat} {p:im},lA ops g af de=some p->TD ops p
 |0,_,_,_,h=>by simp[lA]at h
 |g+1,af,de,p,h=>by
  simp only[lA]at h
  split at h
  ·cases h;trivial
  ·split at h
   ·rename_i j hj
    split at h
    ·rename_i q hq;cases h;exact⟨PG hj,qb hq⟩
    ·cases h
   ·split at h
    ·rename_i j hj
     split at h
     ·rename_i q r hq hr;cases h;exact⟨QI hj,qb hq,qb hr⟩
     ·cases h
    ·exact BO (λi q hq=>qb hq) h
theorem Tn{QP:dw->Mem->Prop}{Q:St->UW->Prop}:∀(pl:im) (p:dw) (s:St) (μ:Mem) (u:UW) (Z:Fz),TD ops pl->df Z p s->Good Z u μ->Wf u->ux false Z μ u QP Q->Vq E fz ops QP pl p μ->Wq E.er fz ops Q pl s u:=by
 have take:∀{i:Nat} {pl:im} {p:dw} {s:St} {μ:Mem} {u:UW} {Z:Fz},(∀o,ops[i]?=some o->bx o=true)->df Z p s->Good Z u μ->(∀p' s',df Z p' s'->Vq E fz ops QP pl p' μ->Wq E.er fz ops Q pl s' u)->
   wQ E fz ops true μ i p (λbV=>Vq E fz ops QP pl bV μ)->stepT E.er fz ops u i s (λbV=>Wq E.er fz ops Q pl bV u):=by
  intro i pl p s μ u Z aI hr hg next h
  unfold wQ at h;unfold stepT;cases ho:ops[i]? with
  |none=>rw[ho]at h;exact h.elim
  |some o=>
   rw[ho]at h;simp only at h |-;refine mL hr (λp1 s1 r1 h1=>?_) (λp1 s1 r1 h1=>next _ _ (r1.fin o (jg Z)) h1) h;simp only[Bool.true_or,cond_true]at h1;cases hl:ou o with
   |false=>exact FW (KP:=λp' _=>Vq E fz ops QP pl p' μ) (K:=λs' _=>Wq E.er fz ops Q pl s' u) r1 (aI o ho) hl next h1
   |true=>exact tn (KP:=λp' _=>Vq E fz ops QP pl p' μ) (K:=λs' _=>Wq E.er fz ops Q pl s' u) (Zr:=Z) r1 hg (Fz.le.refl Z) (.inr hg) hl next h1
 intro pl;induction pl with
 |nil=>intro p s μ u Z aI hr hg hw hC h;exact hC Z p μ s u hr hg hw hg.ext (le_refl _) (λh=>by cases h) h
 |tk i pl ih=>intro p s μ u Z aI hr hg hw hC h;exact take aI.1 hr hg (λp' s' r k=>ih p' s' μ u Z aI.2 r hg hw hC k) h
 |ld i pl r ih ihr=>intro p s μ u Z aI hr hg hw hC h;exact⟨take aI.1 hr hg (λp' s' r k=>ih p' s' μ u Z aI.2.1 r hg hw hC k) h.1,ihr p s μ u Z aI.2.2 hr hg hw hC h.2⟩
 |alt i pl r ih ihr=>
  intro p s μ u Z aI hr hg hw hC h;refine⟨?_,ihr p s μ u Z aI.2 hr hg hw hC h.2⟩;have h1:=h.1;unfold PO at h1;unfold LC;cases ho:ops[i]? with
  |none=>rw[ho]at h1;exact h1.elim
  |some o=>
   rw[ho]at h1;simp only at h1 |-;refine mL hr (λp1 s1 r1 h1=>?_) (λp1 s1 r1 h1=>ih _ _ μ u Z aI.1 (r1.fin o (jg Z)) hg hw hC h1) h1;exact lU r1 hg hw (λZ' p' μ' s' u' r g w e n _ k=>ih p' s' μ' u' Z' aI.1 r g w (hC.step e n) k) h1
 |done=>intro p s μ u Z aI hr hg hw hC h;trivial
theorem AU{α β:Type}(f:α->β):∀(l:List (Nat×α)) (i:Nat),look (l.map λx=>(x.1,f x.2)) i=(look l i).map f
 |[],_=>rfl
 |(k,x)::l,i=>by
  simp only[map_cons,look]
  cases beq k i
  ·exact AU f l i
  ·rfl
end
def sF(Z:Fz)(μ:Mem)(u:UW)(QP:Exit->dw->Mem->Prop)(Q:Exit->St->UW->Prop):Prop:=∀e,ux false Z μ u (QP e) (Q e)
theorem sF.step{Z Z1:Fz}{μ μ1:Mem}{u u1:UW}{QP:Exit->dw->Mem->Prop}{Q:Exit->St->UW->Prop}(h:sF Z μ u QP Q)(e:Ext Z μ u.heap.size Z1 μ1)(hN:u.heap.size<=u1.heap.size):sF Z1 μ1 u1 QP Q:=λx=>(h x).step e hN
theorem ux.now{Z:Fz}{μ:Mem}{u:UW}{KP:dw->Mem->Prop}{K:St->UW->Prop}(h:ux false Z μ u KP K){p:dw}{s:St}(hr:df Z p s)(hg:Good Z u μ)(hw:Wf u)(hk:KP p μ):K s u:=
 h Z p μ s u hr hg hw hg.ext (le_refl _) (λh=>by cases h) hk
theorem sF.r_{Z:Fz}{μ:Mem}{u:UW}{QP:Exit->dw->Mem->Prop}{Q:Exit->St->UW->Prop}{NP:dw->Mem->Prop}{N:St->UW->Prop}(h:sF Z μ u QP Q)(hn:ux false Z μ u NP N):sF Z μ u (Er NP QP) (r_ N Q):=by
 intro e;cases e<;>first|exact hn|exact h _
theorem sF.xN{Z:Fz}{μ:Mem}{u:UW}{QP:Exit->dw->Mem->Prop}{Q:Exit->St->UW->Prop}(h:sF Z μ u QP Q)(id:Nat):sF Z μ u (FT id QP) (xN id Q):=by
 intro e;cases e with
 |exit i=>
  intro Z' p' μ' s' u' a1 a2 a3 a4 a5 a6 a7;simp only[FT]at a7;simp only[aP.xN];cases hb:beq i id with
  |true=>rw[hb]at a7;exact h .normal Z' p' μ' s' u' a1 a2 a3 a4 a5 a6 a7
  |false=>rw[hb]at a7;exact h (.exit i) Z' p' μ' s' u' a1 a2 a3 a4 a5 a6 a7
 |normal=>exact h _
 |ret=>exact h _
 |goto i=>exact h _
 |panic i=>exact h _
 |outgrown=>exact h _
def aep(Z:Fz)(μ:Mem)(N:Nat)(l:sD)(J:zd l->Mem->Prop)(b:Tup l.er)(u:UW):Prop:=
 ∃Z' μ' a,Ext Z μ N Z' μ'/\Good Z' u μ'/\Wf u/\N<=u.heap.size/\tX Z' l a b/\J a μ'
theorem GN{Z:Fz}{μ:Mem}{u:UW}{c:uw}{J:zd c.live->Mem->Prop}{J':Tup c.er.live->UW->Prop}(h:∀Z' μ' u' a b,Ext Z μ u.heap.size Z' μ'->Good Z' u' μ'->Wf u'->u.heap.size<=u'.heap.size->tX Z' c.live a b->J a μ'->J' b u'):ux false Z μ u (Nd c J) (TT c.er J'):=
 λZ' p' μ' s' u' a1 a2 a3 a4 a5 _ a7=>Lw a1 a7 λa b yG hj=>h Z' μ' u' a b a4 a2 a3 a5 yG hj
theorem aaD{p:Option Code}{A B A' B':Prop}{l:List Nat}{F F':Nat->Prop}(h:PK p A B (l.map λi=>(i,F i)))(ha:A->A')(hb:B->B')(hf:∀i,F i->F' i):PK p A' B' (l.map λi=>(i,F' i)):=by
 unfold PK at h |-;split at h
 ·exact ha h
 ·exact hb h
 ·rename_i i;induction l with
  |nil=>exact h
  |cons x l ih=>
   simp only[map_cons,HA]at h |-;cases hx:beq x i with
   |true=>rw[hx]at h;simp only[cond_true]at h |-;exact hf x h
   |false=>rw[hx]at h;simp only[cond_false]at h |-;exact ih h
 ·exact h.elim
theorem Good.aeg{Z:Fz}{u:UW}{μ:Mem}(h:Good Z u μ){b:Nat}{w':World}{ob:Obj}(hB:qV u.toWorld w' b ob){F:uv}{S:Fr}(hF:fh Z F S):Good Z (u.born b w') (μ.set b (some (.obj ob F S)))/\μ b=none:=by
 have wH:u.heap.size<=b:=hB.ge;have cw:∀c,c<u.heap.size->(u.born b w').heap[c]?=u.heap[c]?:=λc hc=>hB.below.block c hc;refine⟨h.go (Fz.le.refl Z) (λc C hC=>.inl ⟨hC,cw c (h.DB (by rw[hC];simp))⟩) (λc o ho=>?_),h.cl wH⟩;by_cases e:c=b
 ·subst e;rw[Mem.ao]at ho;cases ho;exact .inr ⟨λ_=>.inr rfl,h.UF wH,hB.at_,hF⟩
 ·rw[Mem.ax _ _ e]at ho;exact .inl ⟨ho,cw c (h.Pd (by rw[ho];simp)),λhp=>.inl hp,rfl⟩
theorem Good.mask{Z:Fz}{u:UW}{μ:Mem}{l:Nat}{ob:Obj}{F:uv}{S:Fr}(h:Good Z u (μ.set l (some (.obj ob F S))))(hl:μ l=none):Good Z ⟨u.toWorld.putObj l cV,λb=>u.fW b/\b≠l⟩ μ:=by
 obtain⟨_,hz,_⟩:=h.mem l (.obj ob F S) (Mem.ao _ _ _);refine h.go (Fz.le.refl Z) (λc C hC=>.inl ⟨hC,?_⟩) (λc o ho=>.inl ?_)
 ·have aQ:c≠l:=by rintro rfl;rw[hz]at hC;cases hC
  exact ba aQ
 ·have aQ:c≠l:=by rintro rfl;rw[hl]at ho;cases ho
  exact⟨by rw[Mem.ax _ _ aQ];exact ho,ba aQ,λhp=>⟨hp,aQ⟩,rfl⟩
theorem Qe{Z:Fz}{p:uv}{s:Fr}(h:fh Z p s):fh Z (Hg p) (yZ s):=by
 intro t;unfold Hg yZ;have ht:=h t;cases hp:p t with
 |box k o=>exact .aY _
 |aY=>exact .aY _
 |_=>
  rw[hp]at ht;cases hs:s t with
  |complex k a b=>rw[hs]at ht;first|(cases ht;done)|(cases ht;rename_i oA _;cases oA)
  |_=>rw[hs]at ht;exact ht
theorem Dh{Z:Fz}:∀{qs:List Nat} {ps:List PV} {vs:List Value} {p:uv} {s:Fr},fh Z p s->cF Z ps vs->fh Z (EA p qs ps) (uL s qs vs)
 |[],ps,vs,p,s,h,_=>by cases ps<;>cases vs<;>exact h
 |q::qs,[],vs,p,s,h,hm=>by rw[hm.mT];exact h
 |q::qs,x::ps,vs,p,s,h,hm=>by
  obtain⟨v,oQ,rfl,h1,h2⟩:=hm.inv
  exact Dh (p:=aH p q x) (s:=iM s q v) (h.iM h1) h2
variable {E:kr}
def VS(E:kr)(c:Code):Prop:=∀(fz:List Nat) (QP:Exit->dw->Mem->Prop) (Q:Exit->St->UW->Prop) (p:dw) (s:St) (μ:Mem) (u:UW) (Z:Fz),df Z p s->Good Z u μ->Wf u->sF Z μ u QP Q->V E fz c QP p μ->W E.er fz c Q s u
theorem Nx{P:Program}{f:PV}{fv:Value}{Z:Fz}{μ:Mem}{u:UW}{FP:uv}{F9:Fr}{XL:List PV->(Option Code->Mem->Prop)->Mem->Prop}{body:List Value->(Option Code->UW->Prop)->UW->Prop}{KP:Option Code->Mem->Prop}{K:Option Code->UW->Prop}
  (hg:Good Z u μ) (hw:Wf u) (hf:bR Z f fv) (hF:fh Z FP F9) (h:bu P f XL KP μ)
  (RG:∀(Z1:Fz) (u1:UW) (μ1:Mem) (vsP:List PV) (vs:List Value) (RP:Option Code->Mem->Prop) (R:Option Code->UW->Prop),fh Z1 FP F9->Good Z1 u1 μ1->Wf u1->bn Z1 vsP vs->(∀pc Z' μ' u',Ext Z1 μ1 u1.heap.size Z' μ'->Good Z' u' μ'->Wf u'->u1.heap.size<=u'.heap.size->RP pc μ'->R pc u')->XL vsP RP μ1->body vs R u1)
  (hK:∀pc Z' μ' u',Ext Z μ u.heap.size Z' μ'->Good Z' u' μ'->Wf u'->u.heap.size<=u'.heap.size->KP pc μ'->K pc u'):Tq P fv body K u:=by
 obtain⟨⟨g,a,b,rfl⟩,h⟩:=h;obtain⟨fv',ph,rfl,_,_⟩:=id hf.ofFn;refine⟨⟨g,_,_,rfl⟩,λl rec w' hil hB hy=>?_⟩;obtain⟨gb,pG⟩:=hg.aeg hB hF;have hwb:Wf (u.born l w'):=hw.born hB;have wH:u.heap.size<=l:=hB.ge;have hbs:u.heap.size<=w'.heap.size:=hB.below.size;have ry:∀Z1:Fz,bR Z1 (.fn (.yield l) [] []) (.func (.yield l) #[] #[]):=λZ1=>bn.Eo (fv:=[]) (cv:=[]) (bn.nil Z1) (bn.nil Z1);have dA:=h l (λp=>.obj (rec p) FP F9) pG (λvs μ1 R yC hb=>?_)
 ·have hc2:=bJ.v gb hwb hf (bn.cons rfl (ry Z) (bn.nil Z)) dA;refine hc2.mono λv lo w2 hm Zd hp=>?_;obtain⟨Z',μ',pp,e,g',hr,pc,μ3,hl3,rfl,hk⟩:=hp;obtain⟨oA,DH,hhl,_⟩:=g'.mem l _ (Mem.ao _ _ _);have fw:(u.born l w').heap.size<=w2.heap.size:=hm.size;have NZ:w'.heap.size<=w2.heap.size:=fw;refine⟨pc,hhl,hK pc Z' μ3 _ ⟨e.le,λb C hb hn=>?_,λb hb=>?_,λb hb=>?_,λb hb=>hg.DB hb⟩ (g'.mask hl3) ?_ ?_ hk⟩
  ·refine e.zs b C hb ?_;have bI:=hg.DB (b:=b) (by rw[hb];simp);rw[Mem.ax _ _ (by omega)];exact hn
  ·rcases e.zn b hb with h1|h1|h1
   ·exact .inl h1
   ·by_cases e':b=l
    ·subst e';exact .inr (.inr wH)
    ·rw[Mem.ax _ _ e']at h1;exact .inr (.inl h1)
   ·have:w'.heap.size<=b:=h1;exact .inr (.inr (by omega))
  ·have aQ:b≠l:=by rintro rfl;exact hb hl3
   rcases e.mn b (by rw[Mem.ax _ _ aQ];exact hb)with h1|h1
   ·rw[Mem.ax _ _ aQ]at h1;exact .inl h1
   ·have:w'.heap.size<=b:=h1;exact .inr (by omega)
  ·intro b hb;have:=hwb.ret (lo:=lo) fw b hb.1;simpa using this
  ·show _<=(w2.putObj l cV).heap.size;have:(w2.putObj l cV).heap.size=w2.heap.size:=by simp
   omega
 ·show yj P (.fn (.yield l) [] []) vs _ _;intro Z1 u1 fv1 vs1 g1 hw1 ag_ ags;have ef:fv1=.func (.yield l) #[] #[]:=by
   obtain⟨x,y,rfl,h1,h2⟩:=ag_.ofFn;rw[h1.mT,h2.mT]
  subst ef;obtain⟨oA,DH,hhl,hFF⟩:=g1.mem l _ (Mem.ao _ _ _);have oA:=oA rfl;have rD:l<u1.heap.size:=(Array.getElem?_eq_some_iff.1 hhl).1;have hwm:Wf ⟨u1.toWorld.putObj l cV,λb=>u1.fW b/\b≠l⟩:=λb hb=>by simpa using hw1 b hb.1
  have NW:=hy vs1 u1.toWorld (λb=>u1.fW b/\b≠l) (λpc uu=>∃Z' μ3,Ext Z1 μ1 u1.heap.size Z' μ3/\Good Z' uu μ3/\Wf uu/\R pc μ3) hhl (λb hb=>⟨hw1 b hb.1,hb.2⟩)
   (RG Z1 _ μ1 vs vs1 R _ hFF (g1.mask yC) hwm ags (λpc Z' μ' u' e1 e2 e3 e4 e5=>⟨Z',μ',by simpa using e1,e2,e3,e5⟩) hb)
  refine jx.2 ⟨λb=>(u1.fW b/\b≠l)\/b=l,λb hb=>hb.elim (·.1) (λe=>by subst e;exact oA),NW.mono λv lo w2 hm Zd _ hp=>?_⟩;obtain⟨pc,fW,w3,rfl,rfl,hmk,Kf,Z',μ3,e,g3,hw3,hR⟩:=hp;have Vf:l<w3.heap.size:=(Array.getElem?_eq_some_iff.1 hmk).1;have acw:Z' l=none:=by
   cases hz:Z' l with
   |none=>rfl
   |some C=>
    rcases e.zn l (by rw[hz];simp)with h1|h1|h1
    ·exact absurd DH h1
    ·exact absurd yC h1
    ·omega
  have W_:μ3 l=none:=by
   cases hz:μ3 l with
   |none=>rfl
   |some C=>
    rcases e.mn l (by rw[hz];simp)with h1|h1
    ·exact absurd yC h1
    ·omega
  have agC:(w3.putObj l (rec pc)).heap.size=w3.heap.size:=by simp
  refine⟨Z',μ3.set l (some (.obj (rec pc) FP F9)),pB pc.isNone,⟨e.le,λb C hb hn=>?_,λb hb=>?_,λb hb=>?_,e.lt⟩,⟨λb C hb=>?_,λb o ho=>?_⟩,.raw _ rfl rfl,pc,μ3,rfl,W_,rfl,hR⟩
  ·refine e.zs b C hb ?_;by_cases e':b=l
   ·subst e';exact yC
   ·rw[Mem.ax _ _ e']at hn;exact hn
  ·rcases e.zn b hb with h1|h1|h1
   ·exact .inl h1
   ·by_cases e':b=l
    ·subst e';exact absurd yC h1
    ·exact .inr (.inl (by rw[Mem.ax _ _ e'];exact h1))
   ·exact .inr (.inr h1)
  ·by_cases e':b=l
   ·subst e';exact .inl (by rw[Mem.ao];simp)
   ·rw[Mem.ax _ _ e']at hb |-;exact e.mn b hb
  ·have aQ:b≠l:=by rintro rfl;rw[acw]at hb;cases hb
   obtain⟨A,T,f,hA,fK⟩:=g3.Gq b C hb;exact⟨A,T,f,(ba aQ).trans hA,fK⟩
  ·by_cases e':b=l
   ·subst e';rw[Mem.ao]at ho;cases ho;exact⟨λ_=>.inl oA,acw,World.putObj_heap_same Vf,λt=>(hFF t).mono e.le⟩
   ·rw[Mem.ax _ _ e']at ho;obtain⟨p1,p2⟩:=g3.mem b o ho;refine⟨λJb=>?_,p2.go (Fz.le.refl _) rfl (ba e')⟩;rcases Kf b (p1 Jb)with h1|h1
    ·exact .inl h1.1
    ·refine .inr ⟨h1,?_⟩;rw[agC];exact p2.lt
theorem Wm(c:Code):VS E c:=by
 induction c with
 |skip=>intro fz QP Q p s μ u Z hr hg hw hC h;exact(hC .normal).now hr hg hw h
 |ret=>intro fz QP Q p s μ u Z hr hg hw hC h;exact(hC .ret).now hr hg hw h
 |exit i=>intro fz QP Q p s μ u Z hr hg hw hC h;exact(hC (.exit i)).now hr hg hw h
 |region id ops draw=>
  intro fz QP Q p s μ u Z hr hg hw hC h;cases draw with
  |false=>exact vP ops.toList p s μ u Z hr hg hw (hC .normal) h
  |true=>
   simp only[V]at h;simp only[W];obtain⟨hm,h⟩:=aq h;have sr:E.er.P.follows .mixedOrders=true:=hm;rw[sr];simp only[cond_true];have ag5:isQ E.er.eX id=isQ E.eX id:=rfl;rw[ag5];cases hiq:isQ E.eX id with
   |true=>
    rw[hiq]at h;simp only[cond_true]at h |-;cases hp:oh ops with
    |none=>rw[hp]at h;exact h.elim
    |some pl=>
     rw[hp]at h;simp only at h |-;have aI:TD ops pl:=by
      unfold oh at hp;cases hs:Region.noSelect ops with
      |true=>rw[hs]at hp;exact qb hp
      |false=>rw[hs]at hp;cases hp
     exact Tn pl p s μ u Z aI hr hg hw (hC .normal) h
   |false=>
   rw[hiq]at h;simp only[cond_false]at h |-;cases hp:ti ops with
   |none=>rw[hp]at h;exact h.elim
   |some pl=>
    rw[hp]at h;simp only at h |-;have aI:TF ops pl:=by
     unfold ti at hp;cases hs:Region.noSelect ops with
     |true=>rw[hs]at hp;exact jK hp
     |false=>rw[hs]at hp;cases hp
    exact jV hg pl true p s μ u Z aI hr hg hw (Fz.le.refl Z) hg.ext (le_refl _) (λ_=>hg) (.inl (Below.refl _ _)) (hC .normal) h
 |seq x y HH HG=>
  intro fz QP Q p s μ u Z hr hg hw hC h;simp only[V]at h;simp only[W];have ac8:∀{i:Nat},look E.er.i_ i=(look E.i_ i).map uw.er:=λ{i}=>AU uw.er E.i_ i;have RH:(fx y).bind (look E.er.i_)=((fx y).bind (look E.i_)).map uw.er:=by
   cases fx y with
   |none=>rfl
   |some i=>exact ac8
  rw[RH];split at h
  ·rename_i hj;rw[hj];exact HH fz _ _ p s μ u Z hr hg hw (hC.r_ λZ' p' μ' s' u' a1 a2 a3 a4 a5 _ a7=>HG fz QP Q p' s' μ' u' Z' a1 a2 a3 (hC.step a4 a5) a7) h
  ·rename_i l hj;rw[hj];simp only[map_some];obtain⟨hl,J,hA,hB⟩:=aq h;rw[hr.D]at hl hA;rw[hl];simp only[cond_true];refine⟨aep Z μ u.heap.size l.live J,?_,?_⟩
   ·exact HH _ _ _ p s μ u Z hr hg hw (hC.r_ (GN λZ' μ' u' a b e1 e2 e3 e4 e5 e6=>⟨Z',μ',a,e1,e2,e3,e4,e5,e6⟩)) hA
   ·rintro b u' ⟨Z',μ',a,e1,e2,e3,e4,e5,e6⟩;exact HG fz QP Q _ _ μ' u' Z' (LY (hr.mono e1.le) (writes x) e5) e2 e3 (hC.step e1 e4) (hB a μ' e6)
 |cond c x y HH HG=>
  intro fz QP Q p s μ u Z hr hg hw hC h;simp only[V]at h;simp only[W];have hc:=hr.ev c;split at h
  ·rename_i t ht;rw[ht]at hc;rw[hc.ofRaw.1];simp only;cases t with
   |true=>exact HH fz QP Q p s μ u Z hr hg hw hC h
   |false=>exact HG fz QP Q p s μ u Z hr hg hw hC h
  ·exact h.elim
 |block id x ih=>
  intro fz QP Q p s μ u Z hr hg hw hC h;simp only[V]at h;simp only[W];exact ih fz _ _ p s μ u Z hr hg hw (hC.xN id) h
 |loop x ih=>
  intro fz QP Q p s μ u Z hr hg hw hC h;simp only[V]at h;simp only[W];have RH:(fx x).bind (look E.er.loops)=((fx x).bind (look E.loops)).map uw.er:=by
   cases fx x with
   |none=>rfl
   |some i=>exact AU uw.er E.loops i
  rw[RH];split at h
  ·exact h.elim
  ·rename_i l hj;rw[hj];simp only[map_some];obtain⟨hl,h⟩:=aq h;rw[hr.D]at hl h;rw[hl];simp only[cond_true];refine Lw hr h λa b yG ac7=>?_;obtain⟨I,⟨n0,h0⟩,Kc⟩:=ac7;refine⟨λn=>aep Z μ u.heap.size l.live (I n),⟨n0,Z,μ,a,hg.ext,hg,hw,le_refl _,yG,h0⟩,?_⟩;rintro n b u' ⟨Z',μ',a,e1,e2,e3,e4,e5,e6⟩;refine ih _ _ _ _ _ μ' u' Z' (LY (hr.mono e1.le) (writes x) e5) e2 e3 ((hC.step e1 e4).r_ (GN λZ2 μ2 u2 a2 b2 f1 f2 f3 f4 f5 f6=>?_)) (Kc n a μ' e6);obtain⟨m,hm,hi⟩:=f6;exact⟨m,hm,Z2,μ2,a2,e1.trans f1 e4,f2,f3,le_trans e4 f4,f5,hi⟩
 |rangeFunc f ps x y HH HG=>
  intro fz QP Q p s μ u Z hr hg hw hC h;simp only[V]at h;simp only[W];have agH:look E.er.rB (ps.toList.headD 0)=look E.rB (ps.toList.headD 0):=rfl;rw[agH];split at h
  ·exact h.elim
  ·rename_i ts y_;rw[y_];simp only;obtain⟨hlen,h⟩:=aq h;rw[hlen];simp only[cond_true];refine Nx (FP:=Hg p.σ) (F9:=yZ s.σ) hg hw (hr.ev f) (Qe hr.slot) h ?_ ?_
   ·intro Z1 u1 μ1 vsP vs RP R hF Oe hw1 Fg hR hb;obtain⟨Gs,aI,⟨rfl,hb⟩,hex⟩:=tI (Z:=Z1) hb;refine hex (G:=λoQ=>vs=oQ/\W E.er [] x (QC λeN u1=>W E.er [] y (JG R) eN u1) ⟨uL (yZ s.σ) ps.toList oQ,[]⟩ u1) Fg.m ⟨rfl,?_⟩;refine HH [] _ _ ⟨EA (Hg p.σ) ps.toList vsP,[]⟩ _ μ1 u1 Z1 ⟨rfl,Dh hF Fg.m⟩ Oe hw1 (λe=>?_) hb;cases e with
    |normal=>
     intro Z2 p2 μ2 s2 u2 a1 a2 a3 a4 a5 _ a7;refine HG [] _ _ p2 s2 μ2 u2 Z2 a1 a2 a3 (λe=>?_) a7;intro Z3 p3 μ3 s3 u3 b1 b2 b3 b4 b5 _ b7;cases e with
     |normal=>exact hR none Z3 μ3 u3 (a4.trans b4 a5) b2 b3 (le_trans a5 b5) b7
     |ret=>exact hR (some .ret) Z3 μ3 u3 (a4.trans b4 a5) b2 b3 (le_trans a5 b5) b7
     |exit i=>exact hR (some (.exit i)) Z3 μ3 u3 (a4.trans b4 a5) b2 b3 (le_trans a5 b5) b7
     |goto i=>exact b7.elim
     |panic i=>exact b7.elim
     |outgrown=>exact b7.elim
    |ret=>intro Z2 p2 μ2 s2 u2 a1 a2 a3 a4 a5 _ a7;exact a7.elim
    |exit i=>intro Z2 p2 μ2 s2 u2 a1 a2 a3 a4 a5 _ a7;exact a7.elim
    |goto i=>intro Z2 p2 μ2 s2 u2 a1 a2 a3 a4 a5 _ a7;exact a7.elim
    |panic i=>intro Z2 p2 μ2 s2 u2 a1 a2 a3 a4 a5 _ a7;exact a7.elim
    |outgrown=>intro Z2 p2 μ2 s2 u2 a1 a2 a3 a4 a5 _ a7;exact a7.elim
   ·intro pc Z' μ' u' e1 e2 e3 e4 hk;have Bk:=hr.mono e1.le;refine aaD (F:=λi=>QP (.exit i) p μ') hk (λha=>(hC.step e1 e4 .normal).now Bk e2 e3 ha) (λhb=>?_) (λi hi=>(hC.step e1 e4 (.exit i)).now Bk e2 e3 hi);cases hh:lN y with
    |true=>rw[hh]at hb;simp only[cond_true]at hb |-;exact(hC.step e1 e4 .ret).now Bk e2 e3 hb
    |false=>rw[hh]at hb;exact hb.elim
 |scope x ih=>intro fz QP Q p s μ u Z hr hg hw hC h;exact h.elim
 |label l=>intro fz QP Q p s μ u Z hr hg hw hC h;exact h.elim
 |goto l=>intro fz QP Q p s μ u Z hr hg hw hC h;exact h.elim
 |refuse x=>intro fz QP Q p s μ u Z hr hg hw hC h;exact h.elim
theorem uR{P:Program}{rw:List Nat}{Z:Fz}{p:dw}{s:St}{μ:Mem}{u:UW}(hr:df Z p s)(hg:Good Z u μ):∀{rs:List ResultVar} {FP:List PV->Prop} {F:List Value->Prop},(∀ps vs,bn Z ps vs->FP ps->F vs)->uS P rw p μ rs FP->sW P s u rs F
 |[],FP,F,hF,h=>hF [] [] (bn.nil Z) h
 | .tmp t::rs,FP,F,hF,h=>by
   simp only[uS]at h
   simp only[sW]
   obtain⟨hk,h⟩:=aq h
   rw[(hr.slot t).plain hk];simp only[cond_true];exact uR hr hg (λps vs xw hp=>hF _ _ (bn.cons hk (hr.slot t) xw) hp) h
 | .cell a t::rs,FP,F,hF,h=>by
   simp only[uS]at h;simp only[sW];cases hk:lK P (cM rw a) t with
   |none=>rw[hk]at h;exact h.elim
   |some ks=>
    rw[hk]at h;rw[xu hk];simp only at h |-;rw[List.length_map];have ha:=hr.slot a;split at h
    ·rename_i k off he;rw[he]at ha;rw[ha.yz];simp only;rw[<- hr.D];split at h
     ·rename_i m hm;rw[hm];simp only;obtain⟨hc,h⟩:=aq h;simp only[and_eq_true]at hc;have eI:=(fh.wW (k:=k) hr.slot ks.length off).c hc.2;rw[hc.1,jR eI];simp only[Bool.and_self,cond_true];exact uR hr hg (λps vs xw hp=>hF _ _ (bn.cons (EX hk (yx _ _ _ _) hc.2) (AQ eI) xw) hp) h
     ·exact h.elim
    ·unfold aN at h;split at h
     ·rename_i b off he;rw[he]at ha;rw[ha.ofRaw.1];show dI (.pointer (some ⟨b,off,none⟩)) _;unfold dI;simp only;obtain⟨ps0,hlen,hc,⟨dS,h⟩,hex⟩:=nI (Z:=Z) h;obtain⟨vs0,hv,hm⟩:=uV hg dS;have eI:=hm.c hc;exact hex (G:=λus=>rd u.heap b off ks.length=some us/\sW P s u rs λvs=>F (EW (di P t) us::vs)) eI.m ⟨hv,uR hr hg (λps vs xw hp=>hF _ _ (bn.cons (EX hk hlen hc) (AQ eI) xw) hp) h⟩
     ·exact h.elim
def LV(n:Nat)(c:Code)(rs:List ResultVar)(k:Nat):Bool:=fY n c&&ble n 65536&&rs.all (Dw n)&&ble k n
theorem Tb{Z:Fz}{ps:List PV}{vs:List Value}(h:bn Z ps vs):fh Z (MR ps) (IB vs):=by
 intro t;unfold MR IB;cases hp:ps[t]? with
 |none=>
  have:vs[t]?=none:=by
   rw[List.getElem?_eq_none_iff]at hp |-;rw[h.1];exact hp
  rw[this];exact jg Z
 |some p=>
  obtain⟨v,hv,_,hr⟩:=h.get hp;rw[hv];exact hr
theorem To{f:FuncId}{fn:Func}{c:Code}{rs:List ResultVar}{args:List PV}{μ:Mem}{R:Kq}(hf:E.P.funcs[f]?=some fn)(hb:fn.body=some c)(Ve:fn.ntmps=E.n)(Jc:fn.results.toList=rs)
  (aI:LV E.n c rs args.length=true) (hY:dv E.P f=true) (h:VF E c rs args μ R):aa E.P f args μ R:=by
 intro Z u vs hg hw Fg;refine⟨hY,u.fW,λ_ hb=>hb,?_⟩;have agO:UA E.n c rs vs=true:=by
  simp only[LV,and_eq_true]at aI;simp only[UA,and_eq_true];refine⟨⟨aI.1,by rw[Fg.1];exact aI.2⟩,all_eq_true.2 λv hv=>Fg.xo v hv⟩
 have hW:WF E.P E.n E.eX E.er.loops E.er.i_ E.er.rB c rs vs ⟨u.toWorld,u.fW⟩ (λv u'=>∃Z' μ' p,Ext Z μ u.heap.size Z' μ'/\Good Z' u' μ'/\Wf u'/\bR Z' p v/\R p μ'):=by
  refine Wm c [] _ _ ⟨MR args,[]⟩ _ μ u Z ⟨rfl,Tb Fg⟩ hg hw (λe=>?_) h;have fin:∀(Z':Fz) (p':dw) (μ':Mem) (s':St) (u':UW),df Z' p' s'->Good Z' u' μ'->Wf u'->Ext Z μ u.heap.size Z' μ'->uS E.P E.kN p' μ' rs (PC R μ')->sW E.P s' u' rs (Nc (λv u'=>∃Z' μ' p,Ext Z μ u.heap.size Z' μ'/\Good Z' u' μ'/\Wf u'/\bR Z' p v/\R p μ') u'):=by
   intro Z' p' μ' s' u' a1 a2 a3 a4 a7;refine uR a1 a2 (λps oQ xw hR=>?_) a7
   match ps,xw with
   |[],xw=>rw[xw.mT];exact⟨Z',μ',_,a4,a2,a3,jg Z',hR⟩
   |[q],xw=>
    obtain⟨v,afO,rfl,_,h2,h3⟩:=xw.inv;rw[h3.mT];exact⟨Z',μ',_,a4,a2,a3,h2,hR⟩
   |q::q'::ps,xw=>
    obtain⟨v,afO,rfl,_,_,h3⟩:=id xw.inv;obtain⟨v',vs3,rfl,_,_,_⟩:=h3.inv;exact⟨Z',μ',_,a4,a2,a3,xw.uH,hR⟩
  intro Z' p' μ' s' u' a1 a2 a3 a4 a5 _ a7;cases e with
  |normal=>exact fin Z' p' μ' s' u' a1 a2 a3 a4 a7
  |ret=>exact fin Z' p' μ' s' u' a1 a2 a3 a4 a7
  |exit i=>exact a7.elim
  |goto i=>exact a7.elim
  |panic i=>exact a7.elim
  |outgrown=>exact a7.elim
 refine(Tl hf hb Ve Jc agO (λb hb=>hw b hb) hW).mono λv lo w' hm Zd hp=>?_;obtain⟨fW,Kf,Z',μ',p,e,g',UT,hr,hR⟩:=hp;refine⟨Z',μ',p,e,⟨g'.Gq,λb o ho=>?_⟩,hr,hR⟩;obtain⟨p1,p2⟩:=g'.mem b o ho;refine⟨λJb=>?_,p2⟩;rcases Kf b (p1 Jb)with h1|h1
 ·exact .inl h1
 ·exact .inr ⟨h1,p2.lt⟩
theorem OW{E:kr}{S:Prop}{f:FuncId}{fn:Func}{c:Code}{rs:List ResultVar}{args:List PV}{μ:Mem}{R:Kq}(hf:E.P.funcs[f]?=some fn)(hb:fn.body=some c)(Ve:fn.ntmps=E.n)(Jc:fn.results.toList=rs)
  (aI:LV E.n c rs args.length=true) (hY:dv E.P f=true) (e:S=VF E c rs args μ R) (h:S):aa E.P f args μ R:=by
 subst e;exact To hf hb Ve Jc aI hY h
theorem VC{P:Program}{f:FuncId}{fn:Func}{S:Prop}{args:List PV}{μ:Mem}{R:Kq}(eX:List Nat)(loops i_:List (Nat×uw))(rB:List (Nat×List TypeId))(cst wrt kN:List Nat)(hf:P.funcs[f]?=some fn)(h:S)
  (hb:fn.body=some (fn.body.getD .skip):=by rfl) (aI:LV fn.ntmps (fn.body.getD .skip) fn.results.toList args.length=true:=by kernel_rfl) (hY:dv P f=true:=by kernel_rfl)
  (e:S=VF ⟨P,fn.ntmps,eX,loops,i_,rB,cst,wrt,kN⟩ (fn.body.getD .skip) fn.results.toList args μ R:=by kernel_rfl):aa P f args μ R:=
 OW (E:=⟨P,fn.ntmps,eX,loops,i_,rB,cst,wrt,kN⟩) hf hb rfl rfl aI hY e h
@[reducible] def pA(a:Option Addr):PV:=.raw (.pointer a)
@[reducible] def pV(a:Option Addr)(n c:Nat):PV:=.raw (.slice a n c)
def nP(a:Option Addr)(F:Nat->Nat->Prop):Prop:=nn a (aN (.raw (.pointer a)) F)
def cl(μ:Mem)(T:TypeId)(cs:List PV)(K:Nat->Mem->Prop):Prop:=∀b:Nat,μ b=none->K b (μ.set b (some (.cells T cs)))
end Go.aP
