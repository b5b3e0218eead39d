import Derived.Test.YthaeiehophlooaaGreatB04
import Derived.Test.YthaeiehophlooaaGreatChecked
import Derived.WalkSpells
open Bool (and_eq_true not_eq_true' or_eq_false_iff)
open List (all_eq_true eq_nil_of_length_eq_zero getElem?_drop getElem?_eq_getElem getElem?_take length_append map_cons mem_of_getElem? prefix_refl replicate)
open Nat (add_mul beq ble le_refl le_trans zero_add zero_le)
open Option (map_some)
set_option linter.all false
namespace Go.aO
open Go.RowKit
theorem JX{size sz:Nat}{rows:Lq}(h:qv size sz rows=true):sz=size\/rows=[]:=by
 unfold qv at h;cases hb:beq sz size with
 |true=>exact .inl (beq_iff.1 hb)
 |false=>
  rw[hb]at h;simp only[cond_false]at h;split at h
  ·exact .inr rfl
  ·cases h
theorem Ext.sub{Z Z':Fz}{μ μ' mZ:Mem}{N:Nat}(h:Ext Z μ N Z' μ')(hs:mZ.sub μ'):Ext Z μ N Z' mZ:=
 ⟨h.le,h.zs,h.zn,λb hb=>by
  cases hx:mZ b with
  |none=>exact absurd hx hb
  |some o=>exact h.mn b (by rw[hs b o hx];simp),h.lt⟩
theorem bS.size{Z:Fz}{sz size:Nat}{fl:Fl}{rows:Lq}{w:Value}(h:bS Z (.list sz fl rows) w)(hs:qv size sz rows=true):bS Z (.list size fl rows) w:=by
 rcases JX hs with rfl|rfl
 ·exact h
 ·exact h.EZ
theorem LO{Z:Fz}{sz:Nat}{fl:Fl}{rows:Lq}{w:Value}(h:bS Z (.list sz fl rows) w):∀r∈rows,r.length=sz:=by
 cases h;assumption
theorem Vs{P:Program}{e:TypeId}{size bytes zl:Nat}(h:(P.info? e).map (λi=>(i.size,i.bytes,i.zero.map λz=>z.cells.toList.length))=some (size,bytes,some zl)):
  ∃zero:List Value,(P.info? e).map (λi=>(i.size,i.bytes,i.zero.map λz=>z.cells.toList))=some (size,bytes,some zero)/\zero.length=zl:=by
 cases hi:P.info? e with
 |none=>rw[hi]at h;cases h
 |some i=>
  rw[hi]at h;simp only[map_some,Option.some.injEq,Prod.mk.injEq]at h;obtain⟨h1,h2,h3⟩:=h;cases hz:i.zero with
  |none=>rw[hz]at h3;cases h3
  |some z=>
   rw[hz]at h3;simp only[map_some,Option.some.injEq]at h3;exact⟨z.cells.toList,by simp[h1,h2,hz],h3⟩
section
variable {E:kD} {q:Bool} {fz:List Nat} {o:Oper} {p:dC} {s:St} {μ:Mem} {u:UW} {KP:dC->Mem->Prop} {K:St->UW->Prop} {Z:Fz}
theorem Lf{P:Program}{e:TypeId}{size bytes:Nat}{zero:List Value}{fl:Fl}{rows new:Lq}{fy:Fl}{xa yb:Option Addr}{n cap m PR:Nat}{KF:Fl->Mem->Prop}{KV:Value->UW->Prop}(hg:Good Z u μ)(hw:Wf u)
  (ht:(P.info? e).map (λi=>(i.size,i.bytes,i.zero.map λz=>z.cells.toList))=some (size,bytes,some zero)) (DN:zero.length=size) (Kl:size≠0)
  (hx:bS Z (.list size fl rows) (.slice xa n cap)) (hy:bS Z (.list size fy new) (.slice yb m PR)) (h:aW q size bytes fl rows new μ KF)
  (hK:∀(Z':Fz) (μ':Mem) (km:Fl) (v:Value) (u':UW),Ext Z μ u.heap.size Z' μ'->Good Z' u' μ'->Wf u'->u.heap.size<=u'.heap.size->(q=true->Below u.heap.size u.toWorld u'.toWorld)->bS Z' (.list size km (rows++new)) v->KF km μ'->KV v u'):
  Pb P e xa n cap yb m u λa n' c' u'=>KV (.slice a n' c') u':=by
 obtain⟨VQ,pY,h⟩:=h;obtain⟨_,_,_,ex,Pz,hxc,hxs,hxf⟩:=hx.ofList;cases ex;obtain⟨_,_,_,ey,Mn,hyc,hys,hyf⟩:=hy.ofList;cases ey;obtain⟨vx,rx,lx,zx,nx⟩:=tA hg hx (λ_=>Kl);obtain⟨vy,ry,ly,zy,ny⟩:=tA hg hy (λ_=>Kl);rw[Pz,Mn]at VQ pY;have dS:∀r∈rows++new,r.length=size:=λr hr=>(List.mem_append.1 hr).elim (LO hx r) (LO hy r);have RU:new=[]↔m=0:=by
  constructor
  ·rintro rfl;simpa using Mn.symm
  ·intro h0;exact eq_nil_of_length_eq_zero (by omega)
 refine⟨size,bytes,zero,vx,vy,ht,zy,λhm=>?_,zx,λhn=>?_,hxc,VQ,pY,DN,λv hv=>(ry.wX v hv).2,λvr=>?_,λdc=>?_⟩
 ·obtain⟨b,o,C,rfl,_,hr,_⟩:=ny hm;exact hr
 ·obtain⟨b,o,C,rfl,_,hr,_⟩:=nx hn;exact hr
 ·by_cases hm:m=0
  ·left;refine⟨hm,?_⟩;have:=RU.2 hm;subst this;exact hK Z μ fl _ u hg.ext hg hw (le_refl _) (λ_=>Below.refl _ _) (by rw[List.append_nil];exact hx) h
  ·right;refine⟨hm,?_⟩;have aZ:new≠[]:=λe=>hm (RU.1 e);have h:WB q size fl rows.length new.length μ KF:=by
    unfold aaN at h;cases new with
    |nil=>exact absurd rfl aZ
    |cons r rs=>exact h
   cases fl with
   |sh=>exact h.elim
   |nr=>have:cap=n:=hxf;omega
   |nil=>obtain⟨_,h1,h2⟩:xa=none/\n=0/\cap=0:=hxf;omega
   |nz b c=>
    obtain⟨rfl,rfl⟩:xa=some ⟨b,0,none⟩/\cap=c:=hxf;cases q with
    |true=>exact h.elim
    |false=>
     obtain⟨Xs,h⟩:=h;show tX b (0+n*size) vy u _;rw[zero_add];rw[Pz]at Xs;have hle:n*size+m*size<=cap*size:=by rw[<- add_mul];exact Nat.mul_le_mul_right _ vr
     refine hg.grow Xs (by rw[ly];exact hle) (λw' C hC hCl g1 g2 fH hwf=>?_) hw;have Zc:vx=C:=by
      by_cases PE:n=0
      ·rw[zx PE];exact(eq_nil_of_length_eq_zero (by rw[hCl,PE];simp)).symm
      ·obtain⟨b',o',C',e1,e2,_,e4⟩:=nx PE;simp only[Option.some.injEq,Addr.mk.injEq]at e1;obtain⟨rfl,rfl,_⟩:=e1;rw[hC]at e2;cases e2;rw[e4,List.drop_zero,<- hCl,List.take_length]
     have ait:(μ.set b none).set b (some (.nz ((rows.length+new.length)*size) (cap*size)))=μ.set b (some (.nz (n*size+vy.length) (cap*size))):=by
      funext x;by_cases e:x=b
      ·subst e;simp[Pz,Mn,ly,add_mul]
      ·rw[Mem.ax _ _ e,Mem.ax _ _ e,Mem.ax _ _ e]
     have hk:=h b cap (.inl rfl) (by rw[Pz,Mn];exact vr);rw[ait]at hk;refine hK _ _ _ _ _ g2 g1 hwf fH (λh=>by cases h) ?_ hk;have Cd:=qn (Z:=Z.set b (C++vy)) (sz:=size) (fl:=.nz b cap) (rows:=rows++new) (vs:=vx++vy) (b:=b) (o:=0) (c:=cap) (C:=C++vy) dS (by rw[List.flatten_append];exact(rx.mono g2.le).append (ry.mono g2.le)) (Fz.an _ _ _) (λk _=>by rw[Zc,zero_add]) (by rw[length_append,Pz,Mn];exact vr) ⟨rfl,rfl⟩;rw[length_append,Pz,Mn]at Cd;exact Cd
 ·intro c b rest w' hc Cd hB;have hm:m≠0:=by omega
  have aZ:new≠[]:=λe=>hm (RU.1 e);have h:WB q size fl rows.length new.length μ KF:=by
   unfold aaN at h;cases new with
   |nil=>exact absurd rfl aZ
   |cons r rs=>exact h
  have hlen:(vx++vy).length=(rows.length+new.length)*size:=by rw[length_append,lx,ly,Pz,Mn,add_mul]
  obtain⟨g1,g2,g3⟩:=hg.aeA hB (C:=vx++vy) (List.prefix_append _ _) (m:=c*size) (by
   simp only[List.size_toArray,length_append,lx,ly,Cd]
   rw[<- add_mul,<- add_mul];exact Nat.mul_le_mul_right _ (by omega))
  rw[hlen]at g1 g2;have eL:bS (Z.set b (vx++vy)) (.list size (.nz b c) (rows++new)) (.slice (some ⟨b,0,none⟩) (n+m) c):=by
   have hr:=qn (Z:=Z.set b (vx++vy)) (sz:=size) (fl:=.nz b c) (rows:=rows++new) (vs:=vx++vy) (b:=b) (o:=0) (c:=c) (C:=vx++vy) dS (by rw[List.flatten_append];exact(rx.mono g2.le).append (ry.mono g2.le)) (Fz.an _ _ _) (λk _=>by rw[zero_add]) (by rw[length_append,Pz,Mn];exact hc) ⟨rfl,rfl⟩;rw[length_append,Pz,Mn]at hr;exact hr
  cases fl with
  |sh=>exact h.elim
  |nr=>exact hK _ _ _ _ _ g2 g1 (hw.born hB) hB.below.size (λ_=>hB.below) eL (h b c g3 (by rw[Pz,Mn];exact hc))
  |nil=>exact hK _ _ _ _ _ g2 g1 (hw.born hB) hB.below.size (λ_=>hB.below) eL (h b c g3 (by rw[Pz,Mn];exact hc))
  |nz b0 c0=>
   cases q with
   |true=>exact h.elim
   |false=>
    obtain⟨_,h⟩:=h;have jV:((μ.set b0 none).set b (some (Ob.nz ((rows.length+new.length)*size) (c*size)))).sub (μ.set b (some (Ob.nz ((rows.length+new.length)*size) (c*size)))):=by
     intro x ob hx;by_cases e:x=b
     ·subst e;rw[Mem.an]at hx |-;exact hx
     ·rw[Mem.ax _ _ e]at hx |-;by_cases e':x=b0
      ·subst e';rw[Mem.an]at hx;cases hx
      ·rw[Mem.ax _ _ e']at hx;exact hx
    exact hK _ _ _ _ _ (g2.sub jV) (g1.sub jV) (hw.born hB) hB.below.size (λ_=>hB.below) eL (h b c (.inr g3) (by rw[Pz,Mn];exact hc))
theorem Le{P:Program}{e:TypeId}{size bytes:Nat}{zero:List Value}{y:PV}{xa yb:Option Addr}{n cap m PR:Nat}{KR:Option Addr->Nat->Nat->Mem->Prop}{KV:Value->UW->Prop}(hg:Good Z u μ)(hw:Wf u)
  (ht:(P.info? e).map (λi=>(i.size,i.bytes,i.zero.map λz=>z.cells.toList))=some (size,bytes,some zero)) (DN:zero.length=size) (Kl:size≠0)
  (hy:bS Z y (.slice yb m PR)) (h:gP size bytes e xa n cap y μ KR)
  (hK:∀(μ':Mem) (a':Option Addr) (n' c':Nat) (u':UW),Ext Z μ u.heap.size Z μ'->Good Z u' μ'->Wf u'->u.heap.size<=u'.heap.size->KR a' n' c' μ'->KV (.slice a' n' c') u'):
  Pb P e xa n cap yb m u λa n' c' u'=>KV (.slice a n' c') u':=by
 unfold gP Fa at h
 obtain⟨vy,new,jB,zy,ny,VQ,pY,hnc,h,HQ⟩:∃(vy:List Value) (new:List PV),cD Z new vy/\(m=0->vy=[])/\(m≠0->bH yb λb o=>rd u.heap b o (m*size)=some vy)/\(n+m)*bytes<=140737488355328/\n+m<4611686018427387904/\n<=cap/\((m=0/\(n≠0->∃b o Cw,xa=some ⟨b,o,none⟩/\ay μ b o (n*size)=some Cw)/\KR xa n cap μ)\/(m≠0/\aQ new=true/\
  (n+m<=cap->∃b o T cs,xa=some ⟨b,o,none⟩/\μ b=some (.cells T cs)/\o+cap*size<=cs.length/\KR xa (n+m) cap (μ.set b (some (.cells T (dy cs (o+n*size) new)))))/\
  (cap<n+m->∃Cw,((n=0/\Cw=[])\/∃b o,xa=some ⟨b,o,none⟩/\ay μ b o (n*size)=some Cw)/\∀b' c',μ b'=none->n+m<=c'->KR (some ⟨b',0,none⟩) (n+m) c' (μ.set b' (some (.cells e (Cw++new++replicate ((c'-(n+m))*size) .aV)))))))/\(m≠0->vy.length=m*size):=by
  split at h
  ·rename_i sz fl rows;obtain⟨fH,h⟩:=aq h;have Kk:=hy.size fH;obtain⟨_,_,_,ey,Mn,_⟩:=Kk.ofList;cases ey;rw[Mn]at h;obtain⟨vy,ry,ly,zy,ny⟩:=tA hg Kk (λ_=>Kl);exact⟨vy,_,ry.m,zy,λhm=>by obtain⟨b,o,C,rfl,_,hr,_⟩:=ny hm;exact hr,h.1,h.2.1,h.2.2.1,h.2.2.2,λ_=>ly⟩
  ·rename_i b o m' c';have ev:=hy.ofRaw.1;simp only[Value.slice.injEq]at ev;obtain⟨rfl,rfl,rfl⟩:=ev;obtain⟨cs,nN,h⟩:=h;obtain⟨vs,hv,hm⟩:=uY hg nN;have HQ:=QC hv;refine⟨vs,cs,hm,λh0=>?_,λ_=>hv,h.1,h.2.1,h.2.2.1,h.2.2.2,λ_=>HQ⟩;rw[h0]at HQ;exact eq_nil_of_length_eq_zero (by simpa using HQ)
  ·exact h.elim
 rcases h with⟨hm,hold,hk⟩|⟨hm,DT,fT,fL⟩
 ·by_cases hn:n=0
  ·refine⟨size,bytes,zero,[],vy,ht,zy,ny,λ_=>rfl,λh=>absurd hn h,hnc,VQ,pY,DN,λv hv=>?_,λ_=>.inl ⟨hm,hK μ xa n cap u hg.ext hg hw (le_refl _) hk⟩,λbG=>by omega⟩;rw[zy hm]at hv;cases hv
  ·obtain⟨b,o,Cw,rfl,eR⟩:=hold hn;obtain⟨vs,hv,_⟩:=uY hg eR;refine⟨size,bytes,zero,vs,vy,ht,zy,ny,λh=>absurd h hn,λ_=>hv,hnc,VQ,pY,DN,λv hv=>?_,λ_=>.inl ⟨hm,hK μ _ n cap u hg.ext hg hw (le_refl _) hk⟩,λbG=>by omega⟩;rw[zy hm]at hv;cases hv
 ·have hc:=jB.c DT;have HQ:=HQ hm;have T_:new.length=m*size:=by rw[<- hc.1,HQ]
  by_cases vr:n+m<=cap
  ·obtain⟨b,o,T,cs,rfl,hmb,fH,hk⟩:=fT vr;obtain⟨hp,_,A,hA,hcA⟩:=hg.mem b _ hmb;have VU:A.size=cs.length:=by have:=hcA.1;simpa using this
   have hle:n*size+m*size<=cap*size:=by rw[<- add_mul];exact Nat.mul_le_mul_right _ vr
   refine⟨size,bytes,zero,if n=0 then[]else(A.toList.drop o).take (n*size),vy,ht,zy,ny,λh=>by simp[h],λh=>?_,hnc,VQ,pY,DN,λv hv=>(hc.wX v hv).2,λ_=>.inr ⟨hm,?_⟩,λbG=>by omega⟩
   ·rw[if_neg h];exact Aw hA (by omega)
   ·exact hg.store hmb (by rw[T_];omega) jB λw' hs g1 g2=>hK _ _ _ _ _ g2 g1 (hw.Jh hs) hs.size hk
  ·obtain⟨Cw,hold,hk⟩:=fL (by omega);have fin:∀vs:List Value,cD Z Cw vs->vs.length=n*size->(n=0->vs=[])->(n≠0->bH xa λb o=>rd u.heap b o (n*size)=some vs)->Pb P e xa n cap yb m u λa n' c' u'=>KV (.slice a n' c') u':=by
    intro vs Fp alp h0 h1;refine⟨size,bytes,zero,vs,vy,ht,zy,ny,h0,h1,hnc,VQ,pY,DN,λv hv=>(hc.wX v hv).2,λh=>absurd h vr,λ_ c b rest w' MC Cd hB=>?_⟩
    have jm:cD Z (replicate ((c-(n+m))*size) .aV) rest:=⟨by simp[Cd],λi p v hp _=>by
     rw[List.getElem?_replicate]at hp
     split at hp
     ·cases hp;exact .aV _
     ·cases hp⟩
    obtain⟨g1,g2,g3⟩:=hg.born hB (cs:=Cw++new++replicate ((c-(n+m))*size) .aV) ((Fp.append jB).append jm);exact hK _ _ _ _ _ g2 g1 (hw.born hB) hB.below.size (hk b c g3 MC)
   rcases hold with⟨hn,rfl⟩|⟨b,o,rfl,eR⟩
   ·exact fin [] (cD.nil Z) (by simp[hn]) (λ_=>rfl) (λh=>absurd hn h)
   ·obtain⟨vs,hv,sE⟩:=uY hg eR;have hl:=QC hv;exact fin vs sE hl (λh0=>eq_nil_of_length_eq_zero (by rw[hl,h0];simp)) (λ_=>hv)
theorem Pf{P:Program}{e:TypeId}{x y:PV}{xa yb:Option Addr}{n cap m PR:Nat}{KP:Kq}{KV:Value->UW->Prop}(hg:Good Z u μ)(hw:Wf u)(hx:bS Z x (.slice xa n cap))(hy:bS Z y (.slice yb m PR))(h:Na P q e x y μ KP)(hK:Nj q Z μ u KP KV):
  Pb P e xa n cap yb m u λa n' c' u'=>KV (.slice a n' c') u':=by
 unfold Na at h;split at h
 ·rename_i size bytes zl hti;obtain⟨hc,h⟩:=aq h;simp only[and_eq_true,beq_iff,not_eq_true']at hc;obtain⟨zero,ht,DN⟩:=Vs hti;have Kl:size≠0:=λe=>by
   have:=hc.2;rw[e]at this;cases this
  split at h
  ·rename_i sz fl rows Us km new;obtain⟨nN,h⟩:=aq h;simp only[and_eq_true]at nN;exact Lf hg hw ht (DN.trans hc.1) Kl (hx.size nN.1) (hy.size nN.2) h λZ' μ' km v u' e1 e2 e3 e4 e5 e6 e7=>hK Z' μ' _ v u' e1 e2 e3 e4 e5 e6 e7
  ·rename_i a n' c';have ev:=hx.ofRaw.1;simp only[Value.slice.injEq]at ev;obtain⟨rfl,rfl,rfl⟩:=ev;cases q with
   |true=>exact h.elim
   |false=>
    simp only[cond_false]at h;exact Le hg hw ht (DN.trans hc.1) Kl hy h λμ' a' n' c' u' e1 e2 e3 e4 e5=>hK Z μ' _ _ u' e1 e2 e3 e4 (λh=>by cases h) (.raw _ rfl rfl) e5
  ·exact h.elim
 ·exact h.elim
theorem Df{r:Bool}{x:PV}{v:Value}(h:bS Z x v):bS Z (zT r x) v:=by
 unfold zT;cases r with
 |false=>exact h
 |true=>
  simp only[cond_true];split
  ·obtain⟨a,n,c,rfl,_,_,_,hf⟩:=h.ofList;obtain⟨rfl,rfl,rfl⟩:=hf;exact .raw _ rfl rfl
  ·exact h
theorem Dv{kW:List Nat}{k:Nat}:∀{cs:List PV} {vs:List Value} (i:Nat),bq Z cs vs->bq Z (QD kW k i cs) vs
 |[],vs,i,h=>h
 |c::cs,vs,i,h=>by
  obtain⟨v,o_,rfl,hc,hv,hs⟩:=h.inv
  refine bq.cons ?_ (Df hv) (Dv (i+1) hs);unfold zT;cases cK kW k||cK kW (2000000+1000*k+i)with
  |false=>exact hc
  |true=>
   simp only[cond_true];split
   ·rfl
   ·exact hc
theorem qo{kW:List Nat}{k:Option Nat}{cs:List PV}{vs:List Value}(h:bq Z cs vs):bq Z (NS kW k cs) vs:=by
 cases k with
 |none=>exact h
 |some k=>exact Dv 0 h
theorem OL{P:Program}{r:Bool}{t:TypeId}{F:Kq}{G:Value->Prop}{pp:PV}{v:Value}{μ':Mem}{Z':Fz}(hp:bS Z' pp v)(h:ON P r t λp'=>pp=p'/\F p' μ')(hG:F pp μ'->G v):PO P t λv'=>v=v'/\G v':=by
 obtain⟨p',⟨rfl,hF⟩,hex⟩:=OM (Z:=Z') h;exact hex hp ⟨rfl,hG hF⟩
theorem Lx{q:Bool}{KP:dC->Mem->Prop}{K:St->UW->Prop}(hr:di Z p s)(hK:uB q Z μ u KP K)(r:Bool)(t:TypeId):Nj q Z μ u (λv μ'=>ON E.P r t λv'=>v=v'/\KP (cM o p v') μ') (λv u'=>PO E.er.P t λv'=>v=v'/\K (fin o s v') u'):=
 λZ' μ' pp v u' e1 e2 e3 e4 e5 e6 e7=>OL (F:=λp' μ'=>KP (cM o p p') μ') (G:=λv'=>K (fin o s v') u') e6 e7 λhk=>hK Z' _ μ' _ u' ((hr.mono e1.le).fin o e6) e2 e3 e1 e4 e5 hk
theorem lX(hr:di Z p s)(hg:Good Z u μ)(hw:Wf u)(hK:uB q Z μ u KP K)(h:V1 E q fz o p μ KP):W1 E.er fz o s u K:=by
 have hK0:∀p' s',di Z p' s'->KP p' μ->K s' u:=λp' s' h1 h2=>hK Z p' μ s' u h1 hg hw hg.ext (le_refl _) (λ_=>Below.refl _ _) h2;by_cases gX:bw o=true
 ·cases hl:oG o with
  |false=>exact Gb hr gX hl hK0 h
  |true=>exact tz hr hg (Fz.le.refl Z) (.inr hg) hl hK0 h
 ·unfold bw at gX;unfold V1 at h;unfold W1;simp only at h |-;cases Ms:o.op<;>simp only[Ms]at h gX |- <;>first|(exact absurd trivial gX)|(exact h.elim)|skip
  case alloc t=>
   cases hz:(E.P.info? t).bind (·.zero)with
   |none=>rw[hz]at h;exact h.elim
   |some z=>
    rw[hz]at h;have Ot:(E.er.P.info? t).bind (·.zero)=some z:=hz;rw[Ot];obtain⟨aG,h⟩:=aq h;have eL:bS Z (nu E.P t z) z:=(zF Z z).gm;exact AN hr hg hw hK (qo (eL.cells aG)) h
  case box t x=>
   obtain⟨aG,h⟩:=aq h;have hx:=hr.ev x;rw[hx.plain aG];simp only[cond_true];have eL:=hx.gm (P:=E.P) (t:=t);exact AN hr hg hw hK (qo (eL.cells (by rw[oA];exact aG))) h
  case buildSlice t len ps=>
   obtain⟨hc,h⟩:=aq h;simp only[and_eq_true]at hc;have pJ:(ps.toList.all λp=>plain (ev s.σ p.2))=true:=by
    rw[all_eq_true];exact λx hx=>(hr.ev x.2).plain (all_eq_true.1 hc.1 x hx)
   rw[pJ,hc.2];simp only[Bool.and_self,cond_true];cases he:vH E.P t with
   |none=>rw[he]at h;exact h.elim
   |some e=>
    rw[he]at h;have MB:vH E.er.P t=some e:=he;rw[MB];simp only at h |-;split at h
    ·rename_i rows hb
     obtain⟨w,hwl,eL,hl,Cd⟩:=BF (Z:=Z) (vs:=ps.toList.map λp=>(p.1,ev s.σ p.2)) (by simp) (λi x y a b=>by
      rw[List.getElem?_map]at a b
      cases hi:ps.toList[i]? with
      |none=>rw[hi]at a;cases a
      |some z=>
       rw[hi]at a b
       simp only[map_some,Option.some.injEq]at a b
       subst a;subst b
       exact⟨rfl,by rw[oA];exact all_eq_true.1 hc.1 z (mem_of_getElem? hi),(hr.ev z.2).gm⟩) hb
     have agJ:oQ (E.er.P.cellsOf e) 0 (ps.toList.map λp=>(p.1,ev s.σ p.2))=some w:=hwl;rw[agJ];obtain⟨hc2,h⟩:=aq h;have ahJ:(ble w.length 65536&&((E.er.P.info? e).bind (·.zero)).isSome&& !Nat.beq (E.er.P.cellsOf e) 0)=true:=by rw[eL.1];exact hc2
     simp only[ahJ,cond_true];intro b w' hB;cases hwr:ab4 E o with
     |true=>
      rw[hwr]at h;obtain⟨g1,g2,g3⟩:=hg.born hB (cs:=NS E.kW o.dst rows.flatten) (qo eL).m;exact hK Z _ _ _ _ (hr.fin o (.raw _ rfl rfl)) g1 (hw.born hB) g2 hB.below.size (λ_=>hB.below) (h b g3)
     |false=>
      rw[hwr]at h;obtain⟨g1,g2⟩:=hg.X_ hB;refine hK _ _ μ _ _ ((hr.mono g2.le).fin o ?_) g1 (hw.born hB) g2 hB.below.size (λ_=>hB.below) h;have hlen:rows.length=len:=by
       have:=beq_iff.1 hc.2;rw[hl,<- this];simp
      have:=qn (Z:=Z.set b w.toArray.toList) (sz:=E.P.cellsOf e) (fl:=.nr) (rows:=rows) (vs:=w) (b:=b) (o:=0) (c:=rows.length) (C:=w) Cd (eL.mono g2.le) (Fz.an _ _ _) (λk _=>by rw[zero_add]) (le_refl _) rfl;rw[hlen]at this;exact this
    ·exact h.elim
  case store t x y=>
   obtain⟨hc,h⟩:=aq h;simp only[and_eq_true,beq_iff]at hc;have hy:=hr.ev y;have hx:=hr.ev x;have eL:=(hy.gm (P:=E.P) (t:=t)).cells (by rw[oA];exact hc.1.1);have fH:(ev s.σ y).cells.size=(gm E.P t (sJ p.σ y)).cells.length:=by have:=eL.1;simpa using this
   have MC:(plain (ev s.σ y)&&beq (ev s.σ y).cells.size (E.er.P.cellsOf t)&&eG (ev s.σ y).cells.toList&&(E.er.P.info? t).isSome)=true:=by
    have h2:(E.er.P.info? t).isSome=true:=hc.2;rw[hy.plain hc.1.1,fH,hc.1.2,ke eL,h2];have:beq (E.P.cellsOf t) (E.er.P.cellsOf t)=true:=Nat.beq_refl _;rw[this];rfl
   rw[MC];simp only[cond_true];split at h
   ·rename_i k off he;rw[he]at hx;rw[hx.yz];simp only;rw[<- hr.D];split at h
    ·rename_i m hm;rw[hm];simp only;obtain⟨hb,h⟩:=aq h;rw[fH,hb];simp only[cond_true];exact hK0 {p with σ:=JR (Et p.σ k off (gm E.P t (sJ p.σ y)).cells) o.dst (.aA [])} _ ⟨rfl,fx.put (fx.rn hr.slot eL.m) (bp.uK (vs:=[]) (bp.nil Z))⟩ h
    ·exact h.elim
   ·cases q with
    |true=>exact h.elim
    |false=>
     simp only[cond_false]at h;unfold aU at h;split at h
     ·rename_i b off he;rw[he]at hx;rw[hx.ofRaw.1];show dL (.pointer (some ⟨b,off,none⟩)) _;unfold dL;simp only;obtain⟨T,cs,hm,hl,h⟩:=h;exact hg.store hm hl (qo eL).m λw' hs g1 g2=>hK Z _ _ _ _ (hr.fin o (bp.uK (vs:=[]) (bp.nil Z))) g1 (hw.Jh hs) g2 hs.size (λh=>by cases h) h
     ·exact h.elim
  case makeSlice t x y=>
   have hx:=hr.ev x;have hy:=hr.ev y;split at h
   ·rename_i e k i k' j hu he hj;have gp:E.er.P.underlying t=some (.slice e):=hu;rw[he]at hx;rw[hj]at hy;rw[gp,hx.ofRaw.1,hy.ofRaw.1];simp only;cases hi:E.P.info? e with
    |none=>rw[hi]at h;exact h.elim
    |some inf=>
     rw[hi]at h;have xt:E.er.P.info? e=some inf:=hi;rw[xt];simp only[map_some]at h |-;cases hz:inf.zero with
     |none=>rw[hz]at h;exact h.elim
     |some z=>
      rw[hz]at h;simp only[map_some]at h |-;obtain⟨hc,g1,g2,g3,g4,h⟩:=aq h;simp only[and_eq_true,beq_iff]at hc;have eL:bS Z (nu E.P e z) z:=(zF Z z).gm;have hrc:bq Z (nu E.P e z).cells z.cells.toList:=by
       cases hk:(nu E.P e z).ok with
       |true=>exact eL.cells hk
       |false=>
        exfalso;have h3:=hc.2;cases hzp:nu E.P e z<;>rw[hzp]at hk h3<;>simp[PV.ok,PV.cell,PV.cells,aQ]at hk h3
      have sH:(beq z.cells.toList.length inf.size&& !Nat.beq inf.size 0)=true:=by
       rw[hrc.1,hc.1.1,hc.1.2];simp
      rw[sH];simp only[cond_true];refine⟨g1,g2,g3,g4,λb w' hB=>?_⟩;have TX:∀n:Nat,cD Z (replicate n (nu E.P e z).cells).flatten (replicate n z.cells.toList).flatten:=by
       intro n;induction n with
       |zero=>exact cD.nil Z
       |succ n ih=>rw[List.replicate_succ,List.replicate_succ,List.flatten_cons,List.flatten_cons];exact hrc.m.append ih
      obtain⟨d1,d2,d3⟩:=hg.born hB (cs:=(replicate j.toNat (nu E.P e z).cells).flatten) (TX _);exact hK Z _ _ _ _ (hr.fin o (.raw _ rfl rfl)) d1 (hw.born hB) d2 hB.below.size (λ_=>hB.below) (h b d3)
   ·exact h.elim
  case call c=>
   obtain⟨cal,args,ats⟩:=c;cases cal with
   |builtin b=>
    simp only at h gX |-;unfold V1b at h;unfold W1b;generalize args.toList=al at h |-;generalize ats.toList=tl at h |-;cases b<;>first|(exact absurd rfl gX)|(exact h.elim)|skip
    match al,tl,h with
    |[x,y],[t,t'],h=>
     simp only at h |-;have hx:=Df (r:=Cv E o) (hr.ev x);have hy:=hr.ev y;split at h
     ·rename_i e e' hu GA;have gp:E.er.P.underlying t=some (.slice e):=hu;have agO:E.er.P.underlying t'=some (.slice e'):=GA;rw[gp,agO];have sl:∀{pp:PV} {v:Value},bS Z pp v->(∃sz fl rows,pp=.list sz fl rows)\/(∃a n c,pp=.raw (.slice a n c))->∃a n c,v=.slice a n c:=by
       rintro pp v hv (⟨sz,fl,rows,rfl⟩|⟨a,n,c,rfl⟩)
       ·obtain⟨a,n,c,rfl,_⟩:=hv.ofList;exact⟨a,n,c,rfl⟩
       ·exact⟨a,n,c,hv.ofRaw.1⟩
      have PA:((∃sz fl rows,zT (Cv E o) (sJ p.σ x)=.list sz fl rows)\/(∃a n c,zT (Cv E o) (sJ p.σ x)=.raw (.slice a n c)))/\((∃sz fl rows,sJ p.σ y=.list sz fl rows)\/(∃a n c,sJ p.σ y=.raw (.slice a n c))):=by
       unfold Na at h;split at h
       ·obtain⟨_,h⟩:=aq h;split at h
        ·rename_i e1 e2;exact⟨.inl ⟨_,_,_,e1⟩,.inl ⟨_,_,_,e2⟩⟩
        ·rename_i e1;refine⟨.inr ⟨_,_,_,e1⟩,?_⟩;cases q with
         |true=>exact h.elim
         |false=>
          simp only[cond_false]at h;unfold gP Fa at h;split at h
          ·rename_i e2;exact .inl ⟨_,_,_,e2⟩
          ·rename_i e2;exact .inr ⟨_,_,_,e2⟩
          ·exact h.elim
        ·exact h.elim
       ·exact h.elim
      obtain⟨xa,n,cap,hxv⟩:=sl hx PA.1;obtain⟨yb,m,yc,hyv⟩:=sl hy PA.2;rw[hxv,hyv];rw[hxv]at hx;rw[hyv]at hy;simp only;exact Pf (KV:=λv u'=>K (fin o s v) u') hg hw hx hy h λZ' μ' pp v u' e1 e2 e3 e4 e5 e6 e7=>hK Z' _ μ' _ u' ((hr.mono e1.le).fin o e6) e2 e3 e1 e4 e5 e7
     ·exact h.elim
    |[],_,h=>exact h.elim
    |[_],_,h=>exact h.elim
    |[_,_],[],h=>exact h.elim
    |[_,_],[_],h=>exact h.elim
    |[_,_],_::_::_::_,h=>exact h.elim
    |_::_::_::_,_,h=>exact h.elim
   |value f=>
    simp only at h |-;obtain⟨hc,h⟩:=aq h;rw[kZ hr hc];simp only[cond_true];exact Cb.v hg hw (hr.ev f) (IL hr hc).sK h (Lx (E:=E) hr hK (Cv E o) o.type)
   |invoke x name=>
    simp only at h |-;obtain⟨hc,h⟩:=aq h;rw[kZ hr hc];simp only[cond_true];have hx:=hr.ev x;split at h
    ·rename_i t pp he;rw[he]at hx;cases Zc:ev s.σ x with
     |iface t' v=>
      rw[Zc]at hx;cases hx with
      |iface _ _ _ hk hv=>
       simp only;split at h
       ·rename_i g r' hm;obtain⟨jC,h⟩:=h;have adW:pv E.er.P (method (E.er.P.types.size+Made.depth) t v name)=some (g,v):=jC v;rw[adW];simp only;have:=Cb.v (fv:=.func (.func g) #[] #[]) (vs:=v::args.toList.map (ev s.σ)) hg hw (bp.Ex (fv:=[]) (cv:=[]) (bp.nil Z) (bp.nil Z)) (bp.cons (by rw[Js];exact hk) hv.yX (IL hr hc).sK) h (Lx (E:=E) hr hK (Cv E o) o.type);have h2:(bif dg E.P g then oc E.P g ((#[]:Array Value).toList++(v::args.toList.map (ev s.σ))++(#[]:Array Value).toList).toArray u (λv u'=>PO E.er.P o.type λv'=>v=v'/\K (fin o s v') u')else False):=this;obtain⟨iA,h3⟩:=aq h2;have ahG:dg E.er.P g=true:=iA;rw[ahG];simp only[cond_true];show oc E.P g _ u _;simpa using h3
       ·exact h.elim
     |_=>rw[Zc]at hx;cases hx
    ·exact h.elim
end
section
variable {E:kD} {fz:List Nat} {ops:Array Oper}
theorem uB.step{Z Z1:Fz}{μ μ1:Mem}{u u1:UW}{KP:dC->Mem->Prop}{K:St->UW->Prop}(h:uB false Z μ u KP K)(e:Ext Z μ u.heap.size Z1 μ1)(hN:u.heap.size<=u1.heap.size):uB false Z1 μ1 u1 KP K:=
 λZ' p' μ' s' u' r g w e' n _ k=>h Z' p' μ' s' u' r g w (e.trans e' hN) (le_trans hN n) (λh=>by cases h) k
theorem jr(Z:Fz):bS Z (.aA []) undef:=bp.uK (vs:=[]) (bp.nil Z)
theorem TJ{E:Env}{fz:List Nat}{o:Oper}{s:St}{u:UW}{K:St->UW->Prop}(h:W1 E fz o s u K):WJ E fz o s u K:=by
 unfold WJ;split
 ·rename_i t x y t' ho;cases hb:vR (ev s.σ x) (ev s.σ y)with
  |false=>exact h
  |true=>
   exfalso;unfold W1 at h;simp only[ho]at h;unfold vR at hb;split at hb
   ·rename_i a1 a2 e1 e2;rw[e1,e2]at h;exact h
   ·cases hb
 ·exact h
theorem DJ{Z:Fz}{u:UW}{μ:Mem}(hg:Good Z u μ){b:Nat}(h:Rn μ b):∃(c:Array Value) (T:TypeId),u.heap[b]?=some (.cells c T (0,0))/\c.size≠0:=by
 obtain⟨T,cs,hm,aZ⟩:=h;obtain⟨_,_,A,hA,hc⟩:=hg.mem b _ hm;refine⟨A,T,hA,λe=>aZ ?_⟩;have:A.size=cs.length:=by have:=hc.1;simpa using this
 exact eq_nil_of_length_eq_zero (by omega)
theorem Po{Z:Fz}{o:Oper}{p:dC}{s:St}{μ:Mem}{u:UW}{KP:dC->Mem->Prop}{K:St->UW->Prop}(hr:di Z p s)(hg:Good Z u μ)(hw:Wf u)(hK:uB false Z μ u KP K)(h:V1x E fz o p μ KP):WJ E.er fz o s u K:=by
 unfold V1x at h;split at h
 ·rename_i t x y t' ho;cases hb:(Ml (sJ p.σ x)&&Ml (sJ p.σ (.tmp y)))with
  |true=>
   rw[hb]at h;simp only[cond_true]at h;obtain⟨fH,h⟩:=aq h;unfold JS at h;split at h
   ·rename_i b o1 b' o2 ex ey;obtain⟨l1,l2,h⟩:=h;have hx:=hr.ev x;have hy:=hr.ev (.tmp y);rw[ex]at hx;rw[ey]at hy;have ex':=hx.ofRaw.1;have ey':=hy.ofRaw.1;unfold WJ;simp only[ho];rw[ex',ey'];simp only[vR,cond_true];unfold JT;simp only;have Oy:∃e,E.P.underlying t=some (.pointer e)/\sized E.P e=true:=by
     cases hu:E.P.underlying t with
     |none=>rw[hu]at fH;cases fH
     |some d=>
      rw[hu]at fH;cases d<;>first|(cases fH;done)|exact⟨_,rfl,fH⟩
    obtain⟨e,hu,hi⟩:=Oy;have gp:E.er.P.underlying t=some (.pointer e):=hu;have xt:sized E.er.P e=true:=hi;rw[gp];simp only;rw[xt];exact⟨DJ hg l1,DJ hg l2,hK Z _ μ _ u (hr.fin o (.raw _ rfl rfl)) hg hw hg.ext (le_refl _) (λh=>by cases h) h⟩
   ·exact h.elim
  |false=>rw[hb]at h;exact TJ (lX hr hg hw hK h)
 ·exact TJ (lX hr hg hw hK h)
theorem vS{QP:dC->Mem->Prop}{Q:St->UW->Prop}:∀(l:List Oper) (p:dC) (s:St) (μ:Mem) (u:UW) (Z:Fz),di Z p s->Good Z u μ->Wf u->uB false Z μ u QP Q->Vl E fz ops QP l p μ->Wl E.er fz ops Q l s u
 |[],p,s,μ,u,Z,hr,hg,hw,hC,h=>hC Z p μ s u hr hg hw hg.ext (le_refl _) (λh=>by cases h) h
 |o::l,p,s,μ,u,Z,hr,hg,hw,hC,h=>by
  have aiO:∀{p1:dC} {s1:St},di Z p1 s1->V1x E fz o p1 μ (λp' μ'=>Vl E fz ops QP l p' μ')->WJ E.er fz o s1 u (λs' u'=>Wl E.er fz ops Q l s' u'):=λPC h1=>
   Po PC hg hw (λZ' p' μ' s' u' r g w e n _ k=>vS l p' s' μ' u' Z' r g w (hC.step e n) k) h1
  have act:∀{p1:dC} {s1:St},di Z p1 s1->V1 E false fz o p1 μ (λp' μ'=>Vl E fz ops QP l p' μ')->W1 E.er fz o s1 u (λs' u'=>Wl E.er fz ops Q l s' u'):=λPC h1=>
   lX PC hg hw (λZ' p' μ' s' u' r g w e n _ k=>vS l p' s' μ' u' Z' r g w (hC.step e n) k) h1
  have skip:∀{p1:dC} {s1:St},di Z p1 s1->Vl E fz ops QP l (cM o p1 (.aA [])) μ->Wl E.er fz ops Q l (fin o s1 undef) u:=λPC h1=>
   vS l _ _ μ u Z (PC.fin o (jr Z)) hg hw hC h1
  simp only[Vl]at h;simp only[Wl];cases hgd:o.guard with
  |none=>rw[hgd]at h;exact aiO hr h
  |some jb=>
   obtain⟨j,b⟩:=jb;rw[hgd]at h;simp only at h |-;cases xu:pn ops j with
   |none=>rw[xu]at h;exact h.elim
   |some g=>
    rw[xu]at h;simp only at h |-;have hs:=hr.slot g;split at h
    ·rename_i c he;rw[he]at hs;rw[hs.ofRaw.1];simp only;have hT:di Z {p with σ:=aF p.σ g (pB true)} {s with σ:=i_ s.σ g (.bool true)}:=⟨hr.D,fx.i_ hr.slot (.raw _ rfl rfl)⟩;have hF:di Z {p with σ:=aF p.σ g (pB false)} {s with σ:=i_ s.σ g (.bool false)}:=⟨hr.D,fx.i_ hr.slot (.raw _ rfl rfl)⟩;cases c<;>cases b
     ·exact act hF h
     ·exact skip hF h
     ·exact skip hT h
     ·exact act hT h
    ·rename_i vs he;rw[he]at hs;obtain⟨ws,hv,_⟩:=hs.AH;rw[hv];exact skip hr h
    ·exact h.elim
def Ue(ops:Array Oper):jg->Prop
 | .nil=>True
 | .tk i p=>(∀o,ops[i]?=some o->bw o=true)/\Ue ops p
 | .ef i p=>bK ops i p=true/\Ue ops p
 | .SG i p j q=>(bK ops i p=true/\Ue ops p)/\(bK ops j q=true/\Ue ops q)
 | .SF i p j q k r=>(bK ops i p=true/\Ue ops p)/\(bK ops j q=true/\Ue ops q)/\(bK ops k r=true/\Ue ops r)
theorem qN{af:Array Bool}:∀{l:List Nat} {i:Nat},iV ops af l=some i->∀o,ops[i]?=some o->bw o=true
 |[],i,h=>by simp[iV]at h
 |j::l,i,h=>by
  simp only[iV]at h
  intro o ho
  cases ho2:ops[j]? with
  |none=>rw[ho2]at h;exact qN h o ho
  |some oj=>
   rw[ho2]at h
   simp only at h
   cases hc:(bw oj&&Region.free .any ops af j)with
   |true=>
    rw[hc]at h
    simp only[cond_true,Option.some.injEq]at h
    subst h
    rw[ho]at ho2;cases ho2
    simp only[and_eq_true]at hc
    exact hc.1
   |false=>rw[hc]at h;exact qN h o ho
theorem jR:∀{f:Nat} {af:Array Bool} {p:jg},eE ops f af=some p->Ue ops p
 |0,af,p,h=>by
  simp only[eE]at h
  split at h
  ·cases h;trivial
  ·cases h
 |f+1,af,p,h=>by
  simp only[eE]at h
  split at h
  ·cases h;trivial
  ·split at h
   ·rename_i j hj
    split at h
    ·rename_i p' hp;cases h;exact⟨qN hj,jR hp⟩
    ·cases h
   ·split at h
    ·split at h
     ·rename_i p' hp
      cases hc:bK ops _ p' with
      |true=>rw[hc]at h;cases h;exact⟨hc,jR hp⟩
      |false=>rw[hc]at h;cases h
     ·cases h
    ·split at h
     ·rename_i p' q' hp hq
      cases hc:(bK ops _ p'&&bK ops _ q')with
      |true=>
       rw[hc]at h;cases h
       simp only[and_eq_true]at hc
       exact⟨⟨hc.1,jR hp⟩,hc.2,jR hq⟩
      |false=>rw[hc]at h;cases h
     ·cases h
    ·split at h
     ·rename_i p' q' r' hp hq hr
      cases hc:(bK ops _ p'&&bK ops _ q'&&bK ops _ r')with
      |true=>
       rw[hc]at h;cases h
       simp only[and_eq_true]at hc
       exact⟨⟨hc.1.1,jR hp⟩,⟨hc.1.2,jR hq⟩,hc.2,jR hr⟩
      |false=>rw[hc]at h;cases h
     ·cases h
    ·cases h
theorem mS{Z:Fz}{o:Oper}{p:dC}{s:St}{aeG WX:dC->Prop}{act skip:St->Prop}(hr:di Z p s)(ha:∀p1 s1,di Z p1 s1->aeG p1->act s1)(hs:∀p1 s1,di Z p1 s1->WX p1->skip s1)(h:qK ops o p aeG WX):guarded ops o s act skip:=by
 unfold qK at h;unfold guarded;cases hgd:o.guard with
 |none=>rw[hgd]at h;exact ha _ _ hr h
 |some jb=>
  obtain⟨j,b⟩:=jb;rw[hgd]at h;simp only at h |-;cases xu:pn ops j with
  |none=>rw[xu]at h;exact h.elim
  |some g=>
   rw[xu]at h;simp only at h |-;have Zg:=hr.slot g;split at h
   ·rename_i c he;rw[he]at Zg;rw[Zg.ofRaw.1];simp only;have hT:di Z {p with σ:=aF p.σ g (pB true)} {s with σ:=i_ s.σ g (.bool true)}:=⟨hr.D,fx.i_ hr.slot (.raw _ rfl rfl)⟩;have hF:di Z {p with σ:=aF p.σ g (pB false)} {s with σ:=i_ s.σ g (.bool false)}:=⟨hr.D,fx.i_ hr.slot (.raw _ rfl rfl)⟩;cases c<;>cases b
    ·exact ha _ _ hF h
    ·exact hs _ _ hF h
    ·exact hs _ _ hT h
    ·exact ha _ _ hT h
   ·rename_i vs he;rw[he]at Zg;obtain⟨ws,hv,_⟩:=Zg.AH;rw[hv];exact hs _ _ hr h
   ·exact h.elim
theorem aaT{q q':Bool}{fz Z_:List Nat}{o:Oper}{p:dC}{μ:Mem}{K:dC->Mem->Prop}(hn:qD o=true)(hp:im E.fj o=false)(h:V1 E q fz o p μ K):V1 E q' Z_ o p μ K:=by
 unfold qD at hn;unfold im at hp;unfold V1 at h |-;split at hn
 ·rename_i t ho;simp only[ho]at h hp |-;cases hz:(E.P.info? t).bind (·.zero)with
  |none=>rw[hz]at h;exact h.elim
  |some z=>
   rw[hz]at h;simp only at h |-;obtain⟨h1,h⟩:=aq h;rw[h1];simp only[cond_true];unfold Od at h |-;cases hd:o.dst with
   |none=>rw[hd]at h;exact h.elim
   |some k=>
    rw[hd]at h hp;simp only at h hp |-;rw[hp]at h |-;exact h
 ·rename_i t x ho;simp only[ho]at h hp |-;obtain⟨h1,h⟩:=aq h;rw[h1];simp only[cond_true];unfold Od at h |-;cases hd:o.dst with
  |none=>rw[hd]at h;exact h.elim
  |some k=>
   rw[hd]at h hp;simp only at h hp |-;rw[hp]at h |-;exact h
 ·rename_i t len ps ho;simp only[ho]at h |-;exact h
 ·cases hn
theorem HJ{Z:Fz}{u0:UW}{o:Oper}{p:dC}{s:St}{μ0 μ:Mem}{u:UW}{fz:List Nat}{KP:dC->Mem->Prop}{K:St->UW->Prop}(hr:di Z p s)(hg:Good Z u μ)(hw:Wf u)(Mu:∀b,μ b≠none->μ0 b≠none\/u0.heap.size<=b)(jX:rW u0 u)
  (hK:∀Z' p' μ' s' u',di Z' p' s'->Good Z' u' μ'->Wf u'->Ext Z μ u.heap.size Z' μ'->u.heap.size<=u'.heap.size->rW u0 u'->KP p' μ'->K s' u')
  (h:Rq E fz o p μ0 μ KP):W1 E.er fz o s u K:=by
 have base:V1 E true fz o p μ KP->W1 E.er fz o s u K:=λh1=>lX hr hg hw (λZ' p' μ' s' u' a1 a2 a3 a4 a5 a6 a7=>hK Z' p' μ' s' u' a1 a2 a3 a4 a5 (xN jX (a6 rfl)) a7) h1;unfold Rq at h;split at h
 ·rename_i t x y ho;split at h
  ·rename_i b off he;obtain⟨h0,h⟩:=h;unfold V1 at h;unfold W1;simp only[ho]at h |-;obtain⟨hc,h⟩:=aq h;simp only[and_eq_true,beq_iff]at hc;have hy:=hr.ev y;have hx:=hr.ev x;have eL:=(hy.gm (P:=E.P) (t:=t)).cells (by rw[oA];exact hc.1.1);have fH:(ev s.σ y).cells.size=(gm E.P t (sJ p.σ y)).cells.length:=by have:=eL.1;simpa using this
   have MC:(plain (ev s.σ y)&&beq (ev s.σ y).cells.size (E.er.P.cellsOf t)&&eG (ev s.σ y).cells.toList&&(E.er.P.info? t).isSome)=true:=by
    have h2:(E.er.P.info? t).isSome=true:=hc.2;rw[hy.plain hc.1.1,fH,hc.1.2,ke eL,h2];have:beq (E.P.cellsOf t) (E.er.P.cellsOf t)=true:=Nat.beq_refl _;rw[this];rfl
   rw[MC];simp only[cond_true];rw[he]at hx h;rw[hx.ofRaw.1];show dL (.pointer (some ⟨b,off,none⟩)) _;unfold dL;simp only;simp only[cond_false]at h;unfold aU at h;simp only at h;obtain⟨T,cs,hm,hl,h⟩:=h;have hb:u0.heap.size<=b:=(Mu b (by rw[hm];simp)).resolve_left λhn=>hn h0;exact hg.store hm hl (qo eL).m λw' hs g1 g2=>hK Z _ _ _ _ (hr.fin o (bp.uK (vs:=[]) (bp.nil Z))) g1 (hw.Jh hs) g2 hs.size ⟨hs.os.trans jX.os,hs.tape.trans jX.tape,hs.output.trans jX.output,le_trans jX.size hs.size,λc hc=>(hs.ne c (by omega) (Nat.lt_of_lt_of_le hc jX.size)).trans (jX.block c hc)⟩ h
  ·exact base h
 ·exact base h
theorem gA{Z:Fz}{u0:UW}{μ0:Mem}{i:Nat}{p:dC}{s:St}{μ:Mem}{u:UW}{KP:dC->Mem->Prop}{K:St->UW->Prop}(hr:di Z p s)(hg:Good Z u μ)(hw:Wf u)(Mu:∀b,μ b≠none->μ0 b≠none\/u0.heap.size<=b)(jX:qJ ops i=true->rW u0 u)
  (hK:∀Z' p' μ' s' u',di Z' p' s'->Good Z' u' μ'->Wf u'->Ext Z μ u.heap.size Z' μ'->u.heap.size<=u'.heap.size->(qJ ops i=true->rW u0 u')->(E_ ops i=true->rW u0 u->rW u0 u')->KP p' μ'->K s' u')
  (h:qh E fz ops μ0 i p μ KP):su E.er fz ops u0 i s u K:=by
 unfold qh at h;unfold su;cases ho:ops[i]? with
 |none=>rw[ho]at h;exact h.elim
 |some o=>
  rw[ho]at h;simp only at h |-;have lq:im E.er.fj o=im E.fj o:=rfl;rw[lq];cases hp:im E.fj o with
  |true=>rw[hp]at h;exact h.elim
  |false=>
   rw[hp]at h;simp only[cond_false]at h |-;refine mS hr (λp1 s1 r1 h1=>?_) (λp1 s1 r1 h1=>?_) h
   ·cases hl:qJ ops i with
    |true=>
     rw[hl]at h1;simp only[cond_true]at h1 |-;rw[r1.D]at h1;refine HJ r1 hg hw Mu (jX hl) (λZ' p' μ' s' u' a1 a2 a3 a4 a5 PB a7=>?_) h1;exact⟨PB,hK Z' p' μ' s' u' a1 a2 a3 a4 a5 (λ_=>PB) (λ_ _=>PB) a7⟩
    |false=>
     rw[hl]at h1;simp only[cond_false]at h1 |-;cases hn:E_ ops i with
     |true=>
      have hnw:qD o=true:=by unfold E_ at hn;rw[ho]at hn;exact hn
      exact lX r1 hg hw (λZ' p' μ' s' u' a1 a2 a3 a4 a5 a6 a7=>hK Z' p' μ' s' u' a1 a2 a3 a4 a5 (λh=>by rw[hl]at h;cases h) (λ_ hs=>xN hs (a6 rfl)) a7) (aaT hnw hp h1)
     |false=>
      exact lX r1 hg hw (λZ' p' μ' s' u' a1 a2 a3 a4 a5 a6 a7=>hK Z' p' μ' s' u' a1 a2 a3 a4 a5 (λh=>by rw[hl]at h;cases h) (λh=>by rw[hn]at h;cases h) a7) h1
   ·exact hK Z _ μ _ u (r1.fin o (jr Z)) hg hw hg.ext (le_refl _) jX (λ_ hs=>hs) h1
theorem xQ{i:Nat}{pl pl':jg}{u0 u u':UW}(aG:bK ops i pl=true)(jX:rW u0 u\/bM ops pl'=false)(hr:bM ops pl'=false->bM ops pl=false)(a6:qJ ops i=true->rW u0 u')(a8:E_ ops i=true->rW u0 u->rW u0 u'):rW u0 u'\/bM ops pl=false:=by
 unfold bK at aG;cases hl:qJ ops i with
 |true=>exact .inl (a6 hl)
 |false=>
  cases hn:E_ ops i with
  |true=>exact jX.imp (a8 hn) hr
  |false=>
   simp only[hl,hn,Bool.false_or,and_eq_true,not_eq_true']at aG;exact .inr aG.2
theorem ki{QP:dC->Mem->Prop}{Q:St->UW->Prop}{Z0:Fz}{u0:UW}{μ0:Mem}(Xy:Good Z0 u0 μ0):∀(pl:jg) (c:Bool) (p:dC) (s:St) (μ:Mem) (u:UW) (Z:Fz),Ue ops pl->di Z p s->Good Z u μ->Wf u->Z0.le Z->Ext Z0 μ0 u0.heap.size Z μ->u0.heap.size<=u.heap.size->(c=true->Good Z u0 μ0)->(rW u0 u\/bM ops pl=false)->
  uB false Z μ u QP Q->Vd E fz ops μ0 QP c pl p μ->Wd E.er fz ops u0 Q pl s u
 | .nil,c,p,s,μ,u,Z,_,hr,hg,hw,_,_,_,_,_,hC,h=>hC Z p μ s u hr hg hw hg.ext (le_refl _) (λh=>by cases h) h
 | .tk i pl,c,p,s,μ,u,Z,aG,hr,hg,hw,hz,hx,hN,hc,jX,hC,h=>by
   simp only[Vd,wK]at h
   simp only[Wd,stepT]
   cases ho:ops[i]? with
   |none=>rw[ho]at h;exact h.elim
   |some o=>
    rw[ho]at h
    simp only at h |-
    have next:∀p' s',di Z p' s'->Vd E fz ops μ0 QP c pl p' μ->Wd E.er fz ops u0 Q pl s' u:=λp' s' r k=>ki Xy pl c p' s' μ u Z aG.2 r hg hw hz hx hN hc jX hC k
    refine mS hr (λp1 s1 r1 h1=>?_) (λp1 s1 r1 h1=>next _ _ (r1.fin o (jr Z)) h1) h;obtain⟨hcf,h1⟩:=aq h1;cases hl:oG o with
    |false=>exact Gb (KP:=λp' _=>Vd E fz ops μ0 QP c pl p' μ) (K:=λs' _=>Wd E.er fz ops u0 Q pl s' u) r1 (aG.1 o ho) hl next h1
    |true=>
     refine tz (KP:=λp' _=>Vd E fz ops μ0 QP c pl p' μ) (K:=λs' _=>Wd E.er fz ops u0 Q pl s' u) (Zr:=Z0) r1 Xy hz ?_ hl next h1
     cases c with
     |true=>exact .inr (hc rfl)
     |false=>simp only[Bool.false_or,not_eq_true']at hcf;exact .inl hcf
 | .ef i pl,c,p,s,μ,u,Z,aG,hr,hg,hw,hz,hx,hN,hc,jX,hC,h=>by
   have ok1:=aG.1;refine gA hr hg hw hx.mn (λhl=>jX.elim id λhn=>?_) (λZ' p' μ' s' u' a1 a2 a3 a4 a5 a6 a8 a7=>ki Xy pl false p' s' μ' u' Z' aG.2 a1 a2 a3 (hz.trans a4.le) (hx.trans a4 hN) (le_trans hN a5) (λh=>by cases h) ?_ (hC.step a4 a5) a7) h
   ·simp only[bM,hl,Bool.true_or]at hn;cases hn
   ·exact xQ ok1 jX (λhn=>by simp only[bM,or_eq_false_iff]at hn;exact hn.2) a6 a8
 | .SG i pl j pl2,c,p,s,μ,u,Z,aG,hr,hg,hw,hz,hx,hN,hc,jX,hC,h=>by
   obtain⟨⟨ok1,YM⟩,ok2,YL⟩:=aG
   refine⟨gA hr hg hw hx.mn (λhl=>jX.elim id λhn=>?_) (λZ' p' μ' s' u' a1 a2 a3 a4 a5 a6 a8 a7=>ki Xy pl false p' s' μ' u' Z' YM a1 a2 a3 (hz.trans a4.le) (hx.trans a4 hN) (le_trans hN a5) (λh=>by cases h) ?_ (hC.step a4 a5) a7) h.1,
    gA hr hg hw hx.mn (λhl=>jX.elim id λhn=>?_) (λZ' p' μ' s' u' a1 a2 a3 a4 a5 a6 a8 a7=>ki Xy pl2 false p' s' μ' u' Z' YL a1 a2 a3 (hz.trans a4.le) (hx.trans a4 hN) (le_trans hN a5) (λh=>by cases h) ?_ (hC.step a4 a5) a7) h.2⟩
   ·simp only[bM,hl,Bool.true_or]at hn;cases hn
   ·exact xQ ok1 jX (λhn=>by simp only[bM,or_eq_false_iff]at hn;exact hn.1.2) a6 a8
   ·simp only[bM,hl,Bool.true_or,Bool.or_true]at hn;cases hn
   ·exact xQ ok2 jX (λhn=>by simp only[bM,or_eq_false_iff]at hn;exact hn.2.2) a6 a8
 | .SF i pl j pl2 k pl3,c,p,s,μ,u,Z,aG,hr,hg,hw,hz,hx,hN,hc,jX,hC,h=>by
   obtain⟨⟨ok1,YM⟩,⟨ok2,YL⟩,ok3,agp⟩:=aG
   refine⟨gA hr hg hw hx.mn (λhl=>jX.elim id λhn=>?_) (λZ' p' μ' s' u' a1 a2 a3 a4 a5 a6 a8 a7=>ki Xy pl false p' s' μ' u' Z' YM a1 a2 a3 (hz.trans a4.le) (hx.trans a4 hN) (le_trans hN a5) (λh=>by cases h) ?_ (hC.step a4 a5) a7) h.1,
    gA hr hg hw hx.mn (λhl=>jX.elim id λhn=>?_) (λZ' p' μ' s' u' a1 a2 a3 a4 a5 a6 a8 a7=>ki Xy pl2 false p' s' μ' u' Z' YL a1 a2 a3 (hz.trans a4.le) (hx.trans a4 hN) (le_trans hN a5) (λh=>by cases h) ?_ (hC.step a4 a5) a7) h.2.1,
    gA hr hg hw hx.mn (λhl=>jX.elim id λhn=>?_) (λZ' p' μ' s' u' a1 a2 a3 a4 a5 a6 a8 a7=>ki Xy pl3 false p' s' μ' u' Z' agp a1 a2 a3 (hz.trans a4.le) (hx.trans a4 hN) (le_trans hN a5) (λh=>by cases h) ?_ (hC.step a4 a5) a7) h.2.2⟩
   ·simp only[bM,hl,Bool.true_or]at hn;cases hn
   ·exact xQ ok1 jX (λhn=>by simp only[bM,or_eq_false_iff]at hn;exact hn.1.1.2) a6 a8
   ·simp only[bM,hl,Bool.true_or,Bool.or_true]at hn;cases hn
   ·exact xQ ok2 jX (λhn=>by simp only[bM,or_eq_false_iff]at hn;exact hn.1.2.2) a6 a8
   ·simp only[bM,hl,Bool.true_or,Bool.or_true]at hn;cases hn
   ·exact xQ ok3 jX (λhn=>by simp only[bM,or_eq_false_iff]at hn;exact hn.2.2) a6 a8
def Ud(ops:Array Oper):iF->Prop
 | .nil=>True
 | .tk i q=>(∀o,ops[i]?=some o->bw o=true)/\Ud ops q
 | .ld i q r=>(∀o,ops[i]?=some o->bw o=true)/\Ud ops q/\Ud ops r
 | .alt _ q r=>Ud ops q/\Ud ops r
 | .done=>True
theorem Qf{af:Array Bool}{dh:List Nat}:∀{l:List Nat} {i:Nat},zW ops af dh l=some i->∀o,ops[i]?=some o->bw o=true:=λh o ho=>by
 obtain⟨_,oj,gY,gX,_⟩:=zU _ h;rw[ho]at gY;cases gY;exact gX
theorem Rm{af:Array Bool}{dh:List Nat}:∀{l:List Nat} {i:Nat},AU ops af dh l=some i->∀o,ops[i]?=some o->bw o=true:=λh o ho=>by
 obtain⟨_,oj,gY,gX,_⟩:=AS _ h;rw[ho]at gY;cases gY;exact gX
theorem BK{dh:List Nat}{g:Nat->Option iF}(hg:∀i q,g i=some q->Ud ops q):∀{l:List Nat} {q:iF},yT ops dh g l=some q->Ud ops q
 |[],q,h=>by cases h;trivial
 |i::l,q,h=>by
  simp only[yT]at h
  cases hb:cK dh i with
  |true=>rw[hb]at h;exact BK hg h
  |false=>
   rw[hb]at h
   simp only[cond_false]at h
   cases ht:Uo ops i true with
   |true=>rw[ht]at h;cases h
   |false=>
    rw[ht]at h
    simp only[cond_false]at h
    split at h
    ·cases h
    ·rename_i qi hi
     split at h
     ·cases h
     ·rename_i r hl;cases h;exact⟨hg _ _ hi,BK hg hl⟩
theorem qt:∀{g:Nat} {af:Array Bool} {dh:List Nat} {p:iF},lG ops g af dh=some p->Ud ops p
 |0,_,_,_,h=>by simp[lG]at h
 |g+1,af,dh,p,h=>by
  simp only[lG]at h
  split at h
  ·cases h;trivial
  ·split at h
   ·rename_i j hj
    split at h
    ·rename_i q hq;cases h;exact⟨Qf hj,qt hq⟩
    ·cases h
   ·split at h
    ·rename_i j hj
     split at h
     ·rename_i q r hq hr;cases h;exact⟨Rm hj,qt hq,qt hr⟩
     ·cases h
    ·exact BK (λi q hq=>qt hq) h
theorem TK{QP:dC->Mem->Prop}{Q:St->UW->Prop}:∀(pl:iF) (p:dC) (s:St) (μ:Mem) (u:UW) (Z:Fz),Ud ops pl->di Z p s->Good Z u μ->Wf u->uB false Z μ u QP Q->Vq E fz ops QP pl p μ->Wq E.er fz ops Q pl s u:=by
 have take:∀{i:Nat} {pl:iF} {p:dC} {s:St} {μ:Mem} {u:UW} {Z:Fz},(∀o,ops[i]?=some o->bw o=true)->di Z p s->Good Z u μ->(∀p' s',di Z p' s'->Vq E fz ops QP pl p' μ->Wq E.er fz ops Q pl s' u)->
   wK E fz ops true μ i p (λbT=>Vq E fz ops QP pl bT μ)->stepT E.er fz ops u i s (λbT=>Wq E.er fz ops Q pl bT u):=by
  intro i pl p s μ u Z aG hr hg next h
  unfold wK at h;unfold stepT;cases ho:ops[i]? with
  |none=>rw[ho]at h;exact h.elim
  |some o=>
   rw[ho]at h;simp only at h |-;refine mS hr (λp1 s1 r1 h1=>?_) (λp1 s1 r1 h1=>next _ _ (r1.fin o (jr Z)) h1) h;simp only[Bool.true_or,cond_true]at h1;cases hl:oG o with
   |false=>exact Gb (KP:=λp' _=>Vq E fz ops QP pl p' μ) (K:=λs' _=>Wq E.er fz ops Q pl s' u) r1 (aG o ho) hl next h1
   |true=>exact tz (KP:=λp' _=>Vq E fz ops QP pl p' μ) (K:=λs' _=>Wq E.er fz ops Q pl s' u) (Zr:=Z) r1 hg (Fz.le.refl Z) (.inr hg) hl next h1
 intro pl;induction pl with
 |nil=>intro p s μ u Z aG hr hg hw hC h;exact hC Z p μ s u hr hg hw hg.ext (le_refl _) (λh=>by cases h) h
 |tk i pl ih=>intro p s μ u Z aG hr hg hw hC h;exact take aG.1 hr hg (λp' s' r k=>ih p' s' μ u Z aG.2 r hg hw hC k) h
 |ld i pl r ih ihr=>intro p s μ u Z aG hr hg hw hC h;exact⟨take aG.1 hr hg (λp' s' r k=>ih p' s' μ u Z aG.2.1 r hg hw hC k) h.1,ihr p s μ u Z aG.2.2 hr hg hw hC h.2⟩
 |alt i pl r ih ihr=>
  intro p s μ u Z aG hr hg hw hC h;refine⟨?_,ihr p s μ u Z aG.2 hr hg hw hC h.2⟩;have h1:=h.1;unfold Ql at h1;unfold LI;cases ho:ops[i]? with
  |none=>rw[ho]at h1;exact h1.elim
  |some o=>
   rw[ho]at h1;simp only at h1 |-;refine mS hr (λp1 s1 r1 h1=>?_) (λp1 s1 r1 h1=>ih _ _ μ u Z aG.1 (r1.fin o (jr Z)) hg hw hC h1) h1;exact lX r1 hg hw (λZ' p' μ' s' u' r g w e n _ k=>ih p' s' μ' u' Z' aG.1 r g w (hC.step e n) k) h1
 |done=>intro p s μ u Z aG hr hg hw hC h;trivial
theorem AQ{α β:Type}(f:α->β):∀(l:List (Nat×α)) (i:Nat),look (l.map λx=>(x.1,f x.2)) i=(look l i).map f
 |[],_=>rfl
 |(k,x)::l,i=>by
  simp only[map_cons,look]
  cases beq k i
  ·exact AQ f l i
  ·rfl
end
def sQ(Z:Fz)(μ:Mem)(u:UW)(QP:Exit->dC->Mem->Prop)(Q:Exit->St->UW->Prop):Prop:=∀e,uB false Z μ u (QP e) (Q e)
theorem sQ.step{Z Z1:Fz}{μ μ1:Mem}{u u1:UW}{QP:Exit->dC->Mem->Prop}{Q:Exit->St->UW->Prop}(h:sQ Z μ u QP Q)(e:Ext Z μ u.heap.size Z1 μ1)(hN:u.heap.size<=u1.heap.size):sQ Z1 μ1 u1 QP Q:=λx=>(h x).step e hN
theorem uB.now{Z:Fz}{μ:Mem}{u:UW}{KP:dC->Mem->Prop}{K:St->UW->Prop}(h:uB false Z μ u KP K){p:dC}{s:St}(hr:di Z p s)(hg:Good Z u μ)(hw:Wf u)(hk:KP p μ):K s u:=
 h Z p μ s u hr hg hw hg.ext (le_refl _) (λh=>by cases h) hk
theorem sQ.ss{Z:Fz}{μ:Mem}{u:UW}{QP:Exit->dC->Mem->Prop}{Q:Exit->St->UW->Prop}{NP:dC->Mem->Prop}{N:St->UW->Prop}(h:sQ Z μ u QP Q)(hn:uB false Z μ u NP N):sQ Z μ u (Ez NP QP) (ss N Q):=by
 intro e;cases e<;>first|exact hn|exact h _
theorem sQ.xM{Z:Fz}{μ:Mem}{u:UW}{QP:Exit->dC->Mem->Prop}{Q:Exit->St->UW->Prop}(h:sQ Z μ u QP Q)(id:Nat):sQ Z μ u (FY id QP) (xM id Q):=by
 intro e;cases e with
 |exit i=>
  intro Z' p' μ' s' u' a1 a2 a3 a4 a5 a6 a7;simp only[FY]at a7;simp only[aO.xM];cases hb:beq i id with
  |true=>rw[hb]at a7;exact h .normal Z' p' μ' s' u' a1 a2 a3 a4 a5 a6 a7
  |false=>rw[hb]at a7;exact h (.exit i) Z' p' μ' s' u' a1 a2 a3 a4 a5 a6 a7
 |normal=>exact h _
 |ret=>exact h _
 |goto i=>exact h _
 |panic i=>exact h _
 |outgrown=>exact h _
def aeK(Z:Fz)(μ:Mem)(N:Nat)(l:sO)(J:zf l->Mem->Prop)(b:Tup l.er)(u:UW):Prop:=
 ∃Z' μ' a,Ext Z μ N Z' μ'/\Good Z' u μ'/\Wf u/\N<=u.heap.size/\uc Z' l a b/\J a μ'
theorem GQ{Z:Fz}{μ:Mem}{u:UW}{c:uz}{J:zf c.live->Mem->Prop}{J':Tup c.er.live->UW->Prop}(h:∀Z' μ' u' a b,Ext Z μ u.heap.size Z' μ'->Good Z' u' μ'->Wf u'->u.heap.size<=u'.heap.size->uc Z' c.live a b->J a μ'->J' b u'):uB false Z μ u (Ns c J) (Um c.er J'):=
 λZ' p' μ' s' u' a1 a2 a3 a4 a5 _ a7=>LA a1 a7 λa b xw hj=>h Z' μ' u' a b a4 a2 a3 a5 xw hj
theorem aaX{p:Option Code}{A B A' B':Prop}{l:List Nat}{F F':Nat->Prop}(h:PK p A B (l.map λi=>(i,F i)))(ha:A->A')(hb:B->B')(hf:∀i,F i->F' i):PK p A' B' (l.map λi=>(i,F' i)):=by
 unfold PK at h |-;split at h
 ·exact ha h
 ·exact hb h
 ·rename_i i;induction l with
  |nil=>exact h
  |cons x l ih=>
   simp only[map_cons,HI]at h |-;cases hx:beq x i with
   |true=>rw[hx]at h;simp only[cond_true]at h |-;exact hf x h
   |false=>rw[hx]at h;simp only[cond_false]at h |-;exact ih h
 ·exact h.elim
theorem Good.aeB{Z:Fz}{u:UW}{μ:Mem}(h:Good Z u μ){b:Nat}{w':World}{ob:Obj}(hB:rl u.toWorld w' b ob){F:uy}{S:Fr}(hF:fx Z F S):Good Z (u.born b w') (μ.set b (some (.obj ob F S)))/\μ b=none:=by
 have wD:u.heap.size<=b:=hB.ge;have cu:∀c,c<u.heap.size->(u.born b w').heap[c]?=u.heap[c]?:=λc hc=>hB.below.block c hc;refine⟨h.go (Fz.le.refl Z) (λc C hC=>.inl ⟨hC,cu c (h.Cy (by rw[hC];simp))⟩) (λc o ho=>?_),h.cg wD⟩;by_cases e:c=b
 ·subst e;rw[Mem.an]at ho;cases ho;exact .inr ⟨λ_=>.inr rfl,h.Vg wD,hB.at_,hF⟩
 ·rw[Mem.ax _ _ e]at ho;exact .inl ⟨ho,cu c (h.Px (by rw[ho];simp)),λhp=>.inl hp,rfl⟩
theorem Good.mask{Z:Fz}{u:UW}{μ:Mem}{l:Nat}{ob:Obj}{F:uy}{S:Fr}(h:Good Z u (μ.set l (some (.obj ob F S))))(hl:μ l=none):Good Z ⟨u.toWorld.putObj l cT,λb=>u.gj b/\b≠l⟩ μ:=by
 obtain⟨_,hz,_⟩:=h.mem l (.obj ob F S) (Mem.an _ _ _);refine h.go (Fz.le.refl Z) (λc C hC=>.inl ⟨hC,?_⟩) (λc o ho=>.inl ?_)
 ·have aZ:c≠l:=by rintro rfl;rw[hz]at hC;cases hC
  exact ba aZ
 ·have aZ:c≠l:=by rintro rfl;rw[hl]at ho;cases ho
  exact⟨by rw[Mem.ax _ _ aZ];exact ho,ba aZ,λhp=>⟨hp,aZ⟩,rfl⟩
theorem QA{Z:Fz}{p:uy}{s:Fr}(h:fx Z p s):fx Z (Hl p) (y_ s):=by
 intro t;unfold Hl y_;have ht:=h t;cases hp:p t with
 |box k o=>exact .aV _
 |aV=>exact .aV _
 |_=>
  rw[hp]at ht;cases hs:s t with
  |complex k a b=>rw[hs]at ht;first|(cases ht;done)|(cases ht;rename_i pJ _;cases pJ)
  |_=>rw[hs]at ht;exact ht
theorem Dp{Z:Fz}:∀{qs:List Nat} {ps:List PV} {vs:List Value} {p:uy} {s:Fr},fx Z p s->cD Z ps vs->fx Z (EG p qs ps) (uP s qs vs)
 |[],ps,vs,p,s,h,_=>by cases ps<;>cases vs<;>exact h
 |q::qs,[],vs,p,s,h,hm=>by rw[hm.m_];exact h
 |q::qs,x::ps,vs,p,s,h,hm=>by
  obtain⟨v,o_,rfl,h1,h2⟩:=hm.inv
  exact Dp (p:=aF p q x) (s:=i_ s q v) (h.i_ h1) h2
variable {E:kD}
def VS(E:kD)(c:Code):Prop:=∀(fz:List Nat) (QP:Exit->dC->Mem->Prop) (Q:Exit->St->UW->Prop) (p:dC) (s:St) (μ:Mem) (u:UW) (Z:Fz),di Z p s->Good Z u μ->Wf u->sQ Z μ u QP Q->V E fz c QP p μ->W E.er fz c Q s u
theorem NT{P:Program}{f:PV}{fv:Value}{Z:Fz}{μ:Mem}{u:UW}{FP:uy}{F9:Fr}{Ya:List PV->(Option Code->Mem->Prop)->Mem->Prop}{body:List Value->(Option Code->UW->Prop)->UW->Prop}{KP:Option Code->Mem->Prop}{K:Option Code->UW->Prop}
  (hg:Good Z u μ) (hw:Wf u) (hf:bS Z f fv) (hF:fx Z FP F9) (h:bu P f Ya KP μ)
  (adT:∀(Z1:Fz) (u1:UW) (μ1:Mem) (vsP:List PV) (vs:List Value) (RP:Option Code->Mem->Prop) (R:Option Code->UW->Prop),fx Z1 FP F9->Good Z1 u1 μ1->Wf u1->bp Z1 vsP vs->(∀pc Z' μ' u',Ext Z1 μ1 u1.heap.size Z' μ'->Good Z' u' μ'->Wf u'->u1.heap.size<=u'.heap.size->RP pc μ'->R pc u')->Ya vsP RP μ1->body vs R u1)
  (hK:∀pc Z' μ' u',Ext Z μ u.heap.size Z' μ'->Good Z' u' μ'->Wf u'->u.heap.size<=u'.heap.size->KP pc μ'->K pc u'):TP P fv body K u:=by
 obtain⟨⟨g,a,b,rfl⟩,h⟩:=h;obtain⟨fv',pL,rfl,_,_⟩:=id hf.ofFn;refine⟨⟨g,_,_,rfl⟩,λl rec w' hil hB hy=>?_⟩;obtain⟨gb,oK⟩:=hg.aeB hB hF;have hwb:Wf (u.born l w'):=hw.born hB;have wD:u.heap.size<=l:=hB.ge;have hbs:u.heap.size<=w'.heap.size:=hB.below.size;have ry:∀Z1:Fz,bS Z1 (.fn (.yield l) [] []) (.func (.yield l) #[] #[]):=λZ1=>bp.Ex (fv:=[]) (cv:=[]) (bp.nil Z1) (bp.nil Z1);have dr:=h l (λp=>.obj (rec p) FP F9) oK (λvs μ1 R yC hb=>?_)
 ·have hc2:=bJ.v gb hwb hf (bp.cons rfl (ry Z) (bp.nil Z)) dr;refine hc2.mono λv lo w2 hm Zx hp=>?_;obtain⟨Z',μ',pp,e,g',hr,pc,μ3,hl3,rfl,hk⟩:=hp;obtain⟨pJ,DN,hhl,_⟩:=g'.mem l _ (Mem.an _ _ _);have fH:(u.born l w').heap.size<=w2.heap.size:=hm.size;have Oy:w'.heap.size<=w2.heap.size:=fH;refine⟨pc,hhl,hK pc Z' μ3 _ ⟨e.le,λb C hb hn=>?_,λb hb=>?_,λb hb=>?_,λb hb=>hg.Cy hb⟩ (g'.mask hl3) ?_ ?_ hk⟩
  ·refine e.zs b C hb ?_;have bG:=hg.Cy (b:=b) (by rw[hb];simp);rw[Mem.ax _ _ (by omega)];exact hn
  ·rcases e.zn b hb with h1|h1|h1
   ·exact .inl h1
   ·by_cases e':b=l
    ·subst e';exact .inr (.inr wD)
    ·rw[Mem.ax _ _ e']at h1;exact .inr (.inl h1)
   ·have:w'.heap.size<=b:=h1;exact .inr (.inr (by omega))
  ·have aZ:b≠l:=by rintro rfl;exact hb hl3
   rcases e.mn b (by rw[Mem.ax _ _ aZ];exact hb)with h1|h1
   ·rw[Mem.ax _ _ aZ]at h1;exact .inl h1
   ·have:w'.heap.size<=b:=h1;exact .inr (by omega)
  ·intro b hb;have:=hwb.ret (lo:=lo) fH b hb.1;simpa using this
  ·show _<=(w2.putObj l cT).heap.size;have:(w2.putObj l cT).heap.size=w2.heap.size:=by simp
   omega
 ·show yi P (.fn (.yield l) [] []) vs _ _;intro Z1 u1 fv1 vs1 g1 hw1 ahw agK;have ef:fv1=.func (.yield l) #[] #[]:=by
   obtain⟨x,y,rfl,h1,h2⟩:=ahw.ofFn;rw[h1.m_,h2.m_]
  subst ef;obtain⟨pJ,DN,hhl,hFF⟩:=g1.mem l _ (Mem.an _ _ _);have pJ:=pJ rfl;have sF:l<u1.heap.size:=(Array.getElem?_eq_some_iff.1 hhl).1;have hwm:Wf ⟨u1.toWorld.putObj l cT,λb=>u1.gj b/\b≠l⟩:=λb hb=>by simpa using hw1 b hb.1
  have RB:=hy vs1 u1.toWorld (λb=>u1.gj b/\b≠l) (λpc uu=>∃Z' μ3,Ext Z1 μ1 u1.heap.size Z' μ3/\Good Z' uu μ3/\Wf uu/\R pc μ3) hhl (λb hb=>⟨hw1 b hb.1,hb.2⟩)
   (adT Z1 _ μ1 vs vs1 R _ hFF (g1.mask yC) hwm agK (λpc Z' μ' u' e1 e2 e3 e4 e5=>⟨Z',μ',by simpa using e1,e2,e3,e5⟩) hb)
  refine jH.2 ⟨λb=>(u1.gj b/\b≠l)\/b=l,λb hb=>hb.elim (·.1) (λe=>by subst e;exact pJ),RB.mono λv lo w2 hm Zx _ hp=>?_⟩;obtain⟨pc,gj,w3,rfl,rfl,hmk,Kn,Z',μ3,e,g3,hw3,hR⟩:=hp;have VE:l<w3.heap.size:=(Array.getElem?_eq_some_iff.1 hmk).1;have acR:Z' l=none:=by
   cases hz:Z' l with
   |none=>rfl
   |some C=>
    rcases e.zn l (by rw[hz];simp)with h1|h1|h1
    ·exact absurd DN h1
    ·exact absurd yC h1
    ·omega
  have Xr:μ3 l=none:=by
   cases hz:μ3 l with
   |none=>rfl
   |some C=>
    rcases e.mn l (by rw[hz];simp)with h1|h1
    ·exact absurd yC h1
    ·omega
  have agU:(w3.putObj l (rec pc)).heap.size=w3.heap.size:=by simp
  refine⟨Z',μ3.set l (some (.obj (rec pc) FP F9)),pB pc.isNone,⟨e.le,λb C hb hn=>?_,λb hb=>?_,λb hb=>?_,e.lt⟩,⟨λb C hb=>?_,λb o ho=>?_⟩,.raw _ rfl rfl,pc,μ3,rfl,Xr,rfl,hR⟩
  ·refine e.zs b C hb ?_;by_cases e':b=l
   ·subst e';exact yC
   ·rw[Mem.ax _ _ e']at hn;exact hn
  ·rcases e.zn b hb with h1|h1|h1
   ·exact .inl h1
   ·by_cases e':b=l
    ·subst e';exact absurd yC h1
    ·exact .inr (.inl (by rw[Mem.ax _ _ e'];exact h1))
   ·exact .inr (.inr h1)
  ·by_cases e':b=l
   ·subst e';exact .inl (by rw[Mem.an];simp)
   ·rw[Mem.ax _ _ e']at hb |-;exact e.mn b hb
  ·have aZ:b≠l:=by rintro rfl;rw[acR]at hb;cases hb
   obtain⟨A,T,f,hA,fS⟩:=g3.Es b C hb;exact⟨A,T,f,(ba aZ).trans hA,fS⟩
  ·by_cases e':b=l
   ·subst e';rw[Mem.an]at ho;cases ho;exact⟨λ_=>.inl pJ,acR,World.putObj_heap_same VE,λt=>(hFF t).mono e.le⟩
   ·rw[Mem.ax _ _ e']at ho;obtain⟨p1,p2⟩:=g3.mem b o ho;refine⟨λJl=>?_,p2.go (Fz.le.refl _) rfl (ba e')⟩;rcases Kn b (p1 Jl)with h1|h1
    ·exact .inl h1.1
    ·refine .inr ⟨h1,?_⟩;rw[agU];exact p2.lt
theorem WL(c:Code):VS E c:=by
 induction c with
 |skip=>intro fz QP Q p s μ u Z hr hg hw hC h;exact(hC .normal).now hr hg hw h
 |ret=>intro fz QP Q p s μ u Z hr hg hw hC h;exact(hC .ret).now hr hg hw h
 |exit i=>intro fz QP Q p s μ u Z hr hg hw hC h;exact(hC (.exit i)).now hr hg hw h
 |region id ops draw=>
  intro fz QP Q p s μ u Z hr hg hw hC h;cases draw with
  |false=>exact vS ops.toList p s μ u Z hr hg hw (hC .normal) h
  |true=>
   simp only[V]at h;simp only[W];obtain⟨hm,h⟩:=aq h;have sE:E.er.P.follows .mixedOrders=true:=hm;rw[sE];simp only[cond_true];have ahs:isQ E.er.fj id=isQ E.fj id:=rfl;rw[ahs];cases hiq:isQ E.fj id with
   |true=>
    rw[hiq]at h;simp only[cond_true]at h |-;cases hp:oB ops with
    |none=>rw[hp]at h;exact h.elim
    |some pl=>
     rw[hp]at h;simp only at h |-;have aG:Ud ops pl:=by
      unfold oB at hp;cases hs:Region.noSelect ops with
      |true=>rw[hs]at hp;exact qt hp
      |false=>rw[hs]at hp;cases hp
     exact TK pl p s μ u Z aG hr hg hw (hC .normal) h
   |false=>
   rw[hiq]at h;simp only[cond_false]at h |-;cases hp:tw ops with
   |none=>rw[hp]at h;exact h.elim
   |some pl=>
    rw[hp]at h;simp only at h |-;have aG:Ue ops pl:=by
     unfold tw at hp;cases hs:Region.noSelect ops with
     |true=>rw[hs]at hp;exact jR hp
     |false=>rw[hs]at hp;cases hp
    exact ki hg pl true p s μ u Z aG hr hg hw (Fz.le.refl Z) hg.ext (le_refl _) (λ_=>hg) (.inl (Below.refl _ _)) (hC .normal) h
 |seq x y HO HN=>
  intro fz QP Q p s μ u Z hr hg hw hC h;simp only[V]at h;simp only[W];have adt:∀{i:Nat},look E.er.jl i=(look E.jl i).map uz.er:=λ{i}=>AQ uz.er E.jl i;have Sj:(fI y).bind (look E.er.jl)=((fI y).bind (look E.jl)).map uz.er:=by
   cases fI y with
   |none=>rfl
   |some i=>exact adt
  rw[Sj];split at h
  ·rename_i hj;rw[hj];exact HO fz _ _ p s μ u Z hr hg hw (hC.ss λZ' p' μ' s' u' a1 a2 a3 a4 a5 _ a7=>HN fz QP Q p' s' μ' u' Z' a1 a2 a3 (hC.step a4 a5) a7) h
  ·rename_i l hj;rw[hj];simp only[map_some];obtain⟨hl,J,hA,hB⟩:=aq h;rw[hr.D]at hl hA;rw[hl];simp only[cond_true];refine⟨aeK Z μ u.heap.size l.live J,?_,?_⟩
   ·exact HO _ _ _ p s μ u Z hr hg hw (hC.ss (GQ λZ' μ' u' a b e1 e2 e3 e4 e5 e6=>⟨Z',μ',a,e1,e2,e3,e4,e5,e6⟩)) hA
   ·rintro b u' ⟨Z',μ',a,e1,e2,e3,e4,e5,e6⟩;exact HN fz QP Q _ _ μ' u' Z' (Mf (hr.mono e1.le) (writes x) e5) e2 e3 (hC.step e1 e4) (hB a μ' e6)
 |cond c x y HO HN=>
  intro fz QP Q p s μ u Z hr hg hw hC h;simp only[V]at h;simp only[W];have hc:=hr.ev c;split at h
  ·rename_i t ht;rw[ht]at hc;rw[hc.ofRaw.1];simp only;cases t with
   |true=>exact HO fz QP Q p s μ u Z hr hg hw hC h
   |false=>exact HN fz QP Q p s μ u Z hr hg hw hC h
  ·exact h.elim
 |block id x ih=>
  intro fz QP Q p s μ u Z hr hg hw hC h;simp only[V]at h;simp only[W];exact ih fz _ _ p s μ u Z hr hg hw (hC.xM id) h
 |loop x ih=>
  intro fz QP Q p s μ u Z hr hg hw hC h;simp only[V]at h;simp only[W];have Sj:(fI x).bind (look E.er.loops)=((fI x).bind (look E.loops)).map uz.er:=by
   cases fI x with
   |none=>rfl
   |some i=>exact AQ uz.er E.loops i
  rw[Sj];split at h
  ·exact h.elim
  ·rename_i l hj;rw[hj];simp only[map_some];obtain⟨hl,h⟩:=aq h;rw[hr.D]at hl h;rw[hl];simp only[cond_true];refine LA hr h λa b xw ads=>?_;obtain⟨I,⟨n0,h0⟩,Km⟩:=ads;refine⟨λn=>aeK Z μ u.heap.size l.live (I n),⟨n0,Z,μ,a,hg.ext,hg,hw,le_refl _,xw,h0⟩,?_⟩;rintro n b u' ⟨Z',μ',a,e1,e2,e3,e4,e5,e6⟩;refine ih _ _ _ _ _ μ' u' Z' (Mf (hr.mono e1.le) (writes x) e5) e2 e3 ((hC.step e1 e4).ss (GQ λZ2 μ2 u2 a2 b2 f1 f2 f3 f4 f5 f6=>?_)) (Km n a μ' e6);obtain⟨m,hm,hi⟩:=f6;exact⟨m,hm,Z2,μ2,a2,e1.trans f1 e4,f2,f3,le_trans e4 f4,f5,hi⟩
 |rangeFunc f ps x y HO HN=>
  intro fz QP Q p s μ u Z hr hg hw hC h;simp only[V]at h;simp only[W];have agZ:look E.er.rR (ps.toList.headD 0)=look E.rR (ps.toList.headD 0):=rfl;rw[agZ];split at h
  ·exact h.elim
  ·rename_i ts zc;rw[zc];simp only;obtain⟨hlen,h⟩:=aq h;rw[hlen];simp only[cond_true];refine NT (FP:=Hl p.σ) (F9:=y_ s.σ) hg hw (hr.ev f) (QA hr.slot) h ?_ ?_
   ·intro Z1 u1 μ1 vsP vs RP R hF Kw hw1 Fp hR hb;obtain⟨Gw,aG,⟨rfl,hb⟩,hex⟩:=tQ (Z:=Z1) hb;refine hex (G:=λo_=>vs=o_/\W E.er [] x (Ra λeQ u1=>W E.er [] y (JN R) eQ u1) ⟨uP (y_ s.σ) ps.toList o_,[]⟩ u1) Fp.m ⟨rfl,?_⟩;refine HO [] _ _ ⟨EG (Hl p.σ) ps.toList vsP,[]⟩ _ μ1 u1 Z1 ⟨rfl,Dp hF Fp.m⟩ Kw hw1 (λe=>?_) hb;cases e with
    |normal=>
     intro Z2 p2 μ2 s2 u2 a1 a2 a3 a4 a5 _ a7;refine HN [] _ _ p2 s2 μ2 u2 Z2 a1 a2 a3 (λe=>?_) a7;intro Z3 p3 μ3 s3 u3 b1 b2 b3 b4 b5 _ b7;cases e with
     |normal=>exact hR none Z3 μ3 u3 (a4.trans b4 a5) b2 b3 (le_trans a5 b5) b7
     |ret=>exact hR (some .ret) Z3 μ3 u3 (a4.trans b4 a5) b2 b3 (le_trans a5 b5) b7
     |exit i=>exact hR (some (.exit i)) Z3 μ3 u3 (a4.trans b4 a5) b2 b3 (le_trans a5 b5) b7
     |goto i=>exact b7.elim
     |panic i=>exact b7.elim
     |outgrown=>exact b7.elim
    |ret=>intro Z2 p2 μ2 s2 u2 a1 a2 a3 a4 a5 _ a7;exact a7.elim
    |exit i=>intro Z2 p2 μ2 s2 u2 a1 a2 a3 a4 a5 _ a7;exact a7.elim
    |goto i=>intro Z2 p2 μ2 s2 u2 a1 a2 a3 a4 a5 _ a7;exact a7.elim
    |panic i=>intro Z2 p2 μ2 s2 u2 a1 a2 a3 a4 a5 _ a7;exact a7.elim
    |outgrown=>intro Z2 p2 μ2 s2 u2 a1 a2 a3 a4 a5 _ a7;exact a7.elim
   ·intro pc Z' μ' u' e1 e2 e3 e4 hk;have CD:=hr.mono e1.le;refine aaX (F:=λi=>QP (.exit i) p μ') hk (λha=>(hC.step e1 e4 .normal).now CD e2 e3 ha) (λhb=>?_) (λi hi=>(hC.step e1 e4 (.exit i)).now CD e2 e3 hi);cases hh:lR y with
    |true=>rw[hh]at hb;simp only[cond_true]at hb |-;exact(hC.step e1 e4 .ret).now CD e2 e3 hb
    |false=>rw[hh]at hb;exact hb.elim
 |scope x ih=>intro fz QP Q p s μ u Z hr hg hw hC h;exact h.elim
 |label l=>intro fz QP Q p s μ u Z hr hg hw hC h;exact h.elim
 |goto l=>intro fz QP Q p s μ u Z hr hg hw hC h;exact h.elim
 |refuse x=>intro fz QP Q p s μ u Z hr hg hw hC h;exact h.elim
theorem uU{P:Program}{rw:List Nat}{Z:Fz}{p:dC}{s:St}{μ:Mem}{u:UW}(hr:di Z p s)(hg:Good Z u μ):∀{rs:List ResultVar} {FP:List PV->Prop} {F:List Value->Prop},(∀ps vs,bp Z ps vs->FP ps->F vs)->uV P rw p μ rs FP->te P s u rs F
 |[],FP,F,hF,h=>hF [] [] (bp.nil Z) h
 | .tmp t::rs,FP,F,hF,h=>by
   simp only[uV]at h
   simp only[te]
   obtain⟨hk,h⟩:=aq h
   rw[(hr.slot t).plain hk];simp only[cond_true];exact uU hr hg (λps vs vu hp=>hF _ _ (bp.cons hk (hr.slot t) vu) hp) h
 | .cell a t::rs,FP,F,hF,h=>by
   simp only[uV]at h;simp only[te];cases hk:lP P (cK rw a) t with
   |none=>rw[hk]at h;exact h.elim
   |some ks=>
    rw[hk]at h;rw[xp hk];simp only at h |-;rw[List.length_map];have ha:=hr.slot a;split at h
    ·rename_i k off he;rw[he]at ha;rw[ha.yz];simp only;rw[<- hr.D];split at h
     ·rename_i m hm;rw[hm];simp only;obtain⟨hc,h⟩:=aq h;simp only[and_eq_true]at hc;have eL:=(fx.wR (k:=k) hr.slot ks.length off).c hc.2;rw[hc.1,ke eL];simp only[Bool.and_self,cond_true];exact uU hr hg (λps vs vu hp=>hF _ _ (bp.cons (Fc hk (yy _ _ _ _) hc.2) (AO eL) vu) hp) h
     ·exact h.elim
    ·unfold aU at h;split at h
     ·rename_i b off he;rw[he]at ha;rw[ha.ofRaw.1];show dL (.pointer (some ⟨b,off,none⟩)) _;unfold dL;simp only;obtain⟨ps0,hlen,hc,⟨eR,h⟩,hex⟩:=nT (Z:=Z) h;obtain⟨vs0,hv,hm⟩:=uY hg eR;have eL:=hm.c hc;exact hex (G:=λus=>rd u.heap b off ks.length=some us/\te P s u rs λvs=>F (Fb (dq P t) us::vs)) eL.m ⟨hv,uU hr hg (λps vs vu hp=>hF _ _ (bp.cons (Fc hk hlen hc) (AO eL) vu) hp) h⟩
     ·exact h.elim
def Mc(n:Nat)(c:Code)(rs:List ResultVar)(k:Nat):Bool:=gl n c&&ble n 65536&&rs.all (DD n)&&ble k n
theorem TA{Z:Fz}{ps:List PV}{vs:List Value}(h:bp Z ps vs):fx Z (Nc ps) (II vs):=by
 intro t;unfold Nc II;cases hp:ps[t]? with
 |none=>
  have:vs[t]?=none:=by
   rw[List.getElem?_eq_none_iff]at hp |-;rw[h.1];exact hp
  rw[this];exact jr Z
 |some p=>
  obtain⟨v,hv,_,hr⟩:=h.get hp;rw[hv];exact hr
theorem TN{f:FuncId}{fn:Func}{c:Code}{rs:List ResultVar}{args:List PV}{μ:Mem}{R:Kq}(hf:E.P.funcs[f]?=some fn)(hb:fn.body=some c)(Zs:fn.ntmps=E.n)(Jm:fn.results.toList=rs)
  (aG:Mc E.n c rs args.length=true) (iA:dg E.P f=true) (h:VF E c rs args μ R):aa E.P f args μ R:=by
 intro Z u vs hg hw Fp;refine⟨iA,u.gj,λ_ hb=>hb,?_⟩;have aha:UU E.n c rs vs=true:=by
  simp only[Mc,and_eq_true]at aG;simp only[UU,and_eq_true];refine⟨⟨aG.1,by rw[Fp.1];exact aG.2⟩,all_eq_true.2 λv hv=>Fp.wX v hv⟩
 have hW:WF E.P E.n E.fj E.er.loops E.er.jl E.er.rR c rs vs ⟨u.toWorld,u.gj⟩ (λv u'=>∃Z' μ' p,Ext Z μ u.heap.size Z' μ'/\Good Z' u' μ'/\Wf u'/\bS Z' p v/\R p μ'):=by
  refine WL c [] _ _ ⟨Nc args,[]⟩ _ μ u Z ⟨rfl,TA Fp⟩ hg hw (λe=>?_) h;have fin:∀(Z':Fz) (p':dC) (μ':Mem) (s':St) (u':UW),di Z' p' s'->Good Z' u' μ'->Wf u'->Ext Z μ u.heap.size Z' μ'->uV E.P E.kW p' μ' rs (P_ R μ')->te E.P s' u' rs (Nq (λv u'=>∃Z' μ' p,Ext Z μ u.heap.size Z' μ'/\Good Z' u' μ'/\Wf u'/\bS Z' p v/\R p μ') u'):=by
   intro Z' p' μ' s' u' a1 a2 a3 a4 a7;refine uU a1 a2 (λps o_ vu hR=>?_) a7
   match ps,vu with
   |[],vu=>rw[vu.m_];exact⟨Z',μ',_,a4,a2,a3,jr Z',hR⟩
   |[q],vu=>
    obtain⟨v,af4,rfl,_,h2,h3⟩:=vu.inv;rw[h3.m_];exact⟨Z',μ',_,a4,a2,a3,h2,hR⟩
   |q::q'::ps,vu=>
    obtain⟨v,af4,rfl,_,_,h3⟩:=id vu.inv;obtain⟨v',vs3,rfl,_,_,_⟩:=h3.inv;exact⟨Z',μ',_,a4,a2,a3,vu.uK,hR⟩
  intro Z' p' μ' s' u' a1 a2 a3 a4 a5 _ a7;cases e with
  |normal=>exact fin Z' p' μ' s' u' a1 a2 a3 a4 a7
  |ret=>exact fin Z' p' μ' s' u' a1 a2 a3 a4 a7
  |exit i=>exact a7.elim
  |goto i=>exact a7.elim
  |panic i=>exact a7.elim
  |outgrown=>exact a7.elim
 refine(TI hf hb Zs Jm aha (λb hb=>hw b hb) hW).mono λv lo w' hm Zx hp=>?_;obtain⟨gj,Kn,Z',μ',p,e,g',Vu,hr,hR⟩:=hp;refine⟨Z',μ',p,e,⟨g'.Es,λb o ho=>?_⟩,hr,hR⟩;obtain⟨p1,p2⟩:=g'.mem b o ho;refine⟨λJl=>?_,p2⟩;rcases Kn b (p1 Jl)with h1|h1
 ·exact .inl h1
 ·exact .inr ⟨h1,p2.lt⟩
theorem Pn{E:kD}{S:Prop}{f:FuncId}{fn:Func}{c:Code}{rs:List ResultVar}{args:List PV}{μ:Mem}{R:Kq}(hf:E.P.funcs[f]?=some fn)(hb:fn.body=some c)(Zs:fn.ntmps=E.n)(Jm:fn.results.toList=rs)
  (aG:Mc E.n c rs args.length=true) (iA:dg E.P f=true) (e:S=VF E c rs args μ R) (h:S):aa E.P f args μ R:=by
 subst e;exact TN hf hb Zs Jm aG iA h
theorem VC{P:Program}{f:FuncId}{fn:Func}{S:Prop}{args:List PV}{μ:Mem}{R:Kq}(fj:List Nat)(loops jl:List (Nat×uz))(rR:List (Nat×List TypeId))(cst wrt kW:List Nat)(hf:P.funcs[f]?=some fn)(h:S)
  (hb:fn.body=some (fn.body.getD .skip):=by rfl) (aG:Mc fn.ntmps (fn.body.getD .skip) fn.results.toList args.length=true:=by kernel_rfl) (iA:dg P f=true:=by kernel_rfl)
  (e:S=VF ⟨P,fn.ntmps,fj,loops,jl,rR,cst,wrt,kW⟩ (fn.body.getD .skip) fn.results.toList args μ R:=by kernel_rfl):aa P f args μ R:=
 Pn (E:=⟨P,fn.ntmps,fj,loops,jl,rR,cst,wrt,kW⟩) hf hb rfl rfl aG iA e h
@[reducible] def pA(a:Option Addr):PV:=.raw (.pointer a)
@[reducible] def pV(a:Option Addr)(n c:Nat):PV:=.raw (.slice a n c)
def nP(a:Option Addr)(F:Nat->Nat->Prop):Prop:=nn a (aU (.raw (.pointer a)) F)
def cg(μ:Mem)(T:TypeId)(cs:List PV)(K:Nat->Mem->Prop):Prop:=∀b:Nat,μ b=none->K b (μ.set b (some (.cells T cs)))
end Go.aO
namespace Go.aO
open Go.RowKit
theorem ab.t{c:Bool}{A B:Prop}(hc:c=true)(h:A):ab c A B:=by subst hc;exact h
theorem ab.f{c:Bool}{A B:Prop}(hc:c=false)(h:B):ab c A B:=by subst hc;exact h
theorem ab.mk{c:Bool}{A B:Prop}(h1:c=true->A)(h2:c=false->B):ab c A B:=WQ.2 ⟨h1,h2⟩
theorem bZ.of{α β:Type}{A:(α->β->Prop)->Prop}{B:α->β->Prop}(h:∀J:α->β->Prop,(∀s u,B s u->J s u)->A J):bZ A B:=⟨B,h B λ_ _ h=>h,λ_ _ h=>h⟩
theorem ao.up{γ:Type}{body:(Int->γ->Prop)->Int->γ->Prop}{u:γ}(n:Nat)(hn:n<9223372036854775808)(I:Nat->γ->Prop)(h0:I 0 u)
  (h:∀(k:Nat) (u:γ) (next:Int->γ->Prop),k<=n->I k u->(k<n->∀u',I (k+1) u'->next (IntKind.wrap .i64 ((k:Int)+1)) u')->body next (k:Int) u):ao body 0 u:=by
 refine⟨λm s u=>∃k:Nat,s=(k:Int)/\k<=n/\I k u/\m=n-k,⟨n,0,rfl,zero_le _,h0,rfl⟩,?_⟩;rintro _ _ u ⟨k,rfl,hk,hI,rfl⟩;refine h k u _ hk hI λbG u' dK=>?_;rw[aC (by omega) (by omega)];exact⟨n-(k+1),by omega,k+1,by omega,by omega,dK,rfl⟩
theorem ao.up2{β γ:Type}{body:(β×Int->γ->Prop)->β×Int->γ->Prop}{x:β}{u:γ}(n:Nat)(hn:n<9223372036854775808)(I:Nat->β->γ->Prop)(h0:I 0 x u)
  (h:∀(k:Nat) (x:β) (u:γ) (next:β×Int->γ->Prop),k<=n->I k x u->(k<n->∀x' u',I (k+1) x' u'->next (x',IntKind.wrap .i64 ((k:Int)+1)) u')->body next (x,(k:Int)) u):ao body (x,0) u:=by
 refine⟨λm s u=>∃k:Nat,s.2=(k:Int)/\k<=n/\I k s.1 u/\m=n-k,⟨n,0,rfl,zero_le _,h0,rfl⟩,?_⟩;rintro _ ⟨x,_⟩ u ⟨k,rfl,hk,hI,rfl⟩;refine h k x u _ hk hI λbG x' u' dK=>?_;rw[aC (by omega) (by omega)];exact⟨n-(k+1),by omega,k+1,by simp,by omega,dK,rfl⟩
section
variable {P:Program} {g:FuncId} {args:List PV} {μ ν:Mem} {K K':Kq}
theorem aa.mono(h:aa P g args μ K)(hk:∀v μ',K v μ'->K' v μ'):aa P g args μ K':=λZ u vs hg hw ha=>by
 obtain⟨hc,h⟩:=h Z u vs hg hw ha;refine⟨hc,h.DG λv lo w' _ _ hp=>?_⟩;obtain⟨Z',μ',p,e,g',hr,hK⟩:=hp;exact⟨Z',μ',p,e,g',hr,hk p μ' hK⟩
theorem aa.Cn(h:aa P g args μ K)(hk:∀v μ',K v μ'->∃v' mZ,(∀Z r,bS Z v r->bS Z v' r)/\mZ.sub μ'/\K' v' mZ):aa P g args μ K':=λZ u vs hg hw ha=>by
 obtain⟨hc,h⟩:=h Z u vs hg hw ha;refine⟨hc,h.DG λv lo w' _ _ hp=>?_⟩;obtain⟨Z',μ',p,e,g',hr,hK⟩:=hp;obtain⟨v',mZ,h1,h2,h3⟩:=hk p μ' hK;exact⟨Z',mZ,v',e.sub h2,g'.sub h2,h1 Z' _ hr,h3⟩
theorem aa.wk(h:aa P g args μ λp μ'=>K (aO.wk p) μ'):aa P g args μ K:=h.Cn λv μ' hk=>⟨aO.wk v,μ',λZ r h=>h.wk,λ_ _ h=>h,hk⟩
theorem Mem.bC{μ ν:Mem}{b:Nat}{o:Ob}(h:μ b=some o):(μ.or ν) b=some o:=by simp[Mem.or,h]
theorem Mem.bI{μ ν:Mem}{b:Nat}(h:μ b=none):(μ.or ν) b=ν b:=by simp[Mem.or,h]
@[simp] theorem Mem.mJ(μ:Mem):μ.or M0=μ:=by
 funext b;unfold Mem.or;cases μ b<;>rfl
@[simp] theorem Mem.BQ(μ:Mem):M0.or μ=μ:=by funext b;rfl
theorem Mem.Xb{μ ν:Mem}{b:Nat}(h:(μ.or ν) b≠Option.none):μ b≠Option.none\/ν b≠Option.none:=by
 cases hb:μ b with
 |some o=>exact .inl (by simp)
 |none=>rw[Mem.bI hb]at h;exact .inr h
@[simp] theorem aky(b:Nat):M0 b=Option.none:=rfl
theorem Mem.qk(μ:Mem):M0.sep μ:=λb=>.inl rfl
theorem aa.frame(h:aa P g args μ K)(hs:μ.sep ν):aa P g args (μ.or ν) λv μ'=>∃μ1,μ1.sep ν/\μ'=μ1.or ν/\K v μ1:=λZ u vs hg hw ha=>by
 have hμ:∀b o,μ b=some o->(o.rw=true->u.gj b)/\zg Z u b o:=λb o e=>hg.mem b o (Mem.bC e);have hν:∀b o,ν b=some o->μ b=none/\(o.rw=true->u.gj b)/\zg Z u b o:=λb o e=>by
  have hn:μ b=none:=(hs b).resolve_right (by rw[e];simp);exact⟨hn,hg.mem b o (by rw[Mem.bI hn];exact e)⟩
 have Kw:Good Z ⟨u.toWorld,λb=>∃o,μ b=some o/\o.rw=true⟩ μ:=⟨hg.Es,λb o e=>⟨λhr=>⟨o,e,hr⟩,(hμ b o e).2⟩⟩;obtain⟨hc,F,hF,dr⟩:=h Z ⟨u.toWorld,λb=>∃o,μ b=some o/\o.rw=true⟩ vs Kw (λb ⟨o,ho,_⟩=>Kw.Px (by rw[ho];simp)) ha;refine⟨hc,F,λb hb=>?_,dr.mono λv lo w' hm Zx hp=>?_⟩
 ·obtain⟨o,ho,hr⟩:=hF b hb;exact(hμ b o ho).1 hr
 ·obtain⟨Z',μ1,p,e,g',hr,hK⟩:=hp;have hnb:∀b o,ν b=some o->w'.heap[b]?=u.heap[b]?/\Z' b=Z b/\μ1 b=none:=λb o hb=>by
   obtain⟨h1,_,h2⟩:=hν b o hb;have bG:=h2.lt;refine⟨hm.cu b bG λhf=>(by obtain⟨o',RO,_⟩:=hF b hf;rw[h1]at RO;cases RO),?_,?_⟩
   ·cases hz:Z b with
    |some C=>exact e.zs b C hz h1
    |none=>
     cases Ot:Z' b with
     |none=>rfl
     |some C=>
      rcases e.zn b (by rw[Ot];simp)with h3|h3|h3
      ·exact absurd hz h3
      ·exact absurd h1 h3
      ·have:u.heap.size<=b:=h3;omega
   ·cases hx:μ1 b with
    |none=>rfl
    |some o'=>
     rcases e.mn b (by rw[hx];simp)with h3|h3
     ·exact absurd h1 h3
     ·have:u.heap.size<=b:=h3;omega
  refine⟨Z',μ1.or ν,p,⟨e.le,λb C hb hn=>?_,λb hb=>?_,λb hb=>?_,e.lt⟩,⟨g'.Es,λb o ho=>?_⟩,hr,μ1,λb=>?_,rfl,hK⟩
  ·refine e.zs b C hb ?_;cases hx:μ b with
   |none=>rfl
   |some o=>rw[Mem.bC hx]at hn;cases hn
  ·rcases e.zn b hb with h3|h3|h3
   ·exact .inl h3
   ·refine .inr (.inl ?_);cases hx:μ b with
    |none=>exact absurd hx h3
    |some o=>rw[Mem.bC hx];simp
   ·exact .inr (.inr h3)
  ·rcases Mem.Xb hb with h3|h3
   ·rcases e.mn b h3 with h4|h4
    ·left;cases hx:μ b with
     |none=>exact absurd hx h4
     |some o=>rw[Mem.bC hx];simp
    ·exact .inr h4
   ·cases hx:ν b with
    |none=>exact absurd hx h3
    |some o=>exact .inl (by rw[Mem.bI (hν b o hx).1,hx];simp)
  ·cases hx:μ1 b with
   |some o'=>
    rw[Mem.bC hx]at ho;cases ho;obtain⟨p1,p2⟩:=g'.mem b _ hx;refine⟨λJl=>?_,p2⟩;rcases p1 Jl with⟨o2,hy,DR⟩|p1
    ·exact .inl ((hμ b o2 hy).1 DR)
    ·exact .inr p1
   |none=>
    rw[Mem.bI hx]at ho;obtain⟨h1,h2,h3⟩:=hν b o ho;obtain⟨h4,h5,h6⟩:=hnb b o ho;exact⟨λJl=>.inl (h2 Jl),h3.go e.le h5 h4⟩
  ·cases hx:ν b with
   |none=>exact .inr rfl
   |some o=>exact .inl (hnb b o hx).2.2
def av(P:Program)(g:FuncId)(args:List PV)(K:PV->Prop):Prop:=aa P g args M0 λp _=>K p
def Pure(P:Program)(g:FuncId)(args:List PV)(r:PV):Prop:=av P g args λp=>p=r
theorem av.call{Kp:PV->Prop}(h:av P g args Kp)(hk:∀p,Kp p->K p μ):aa P g args μ K:=by
 have h1:=aa.frame (ν:=μ) h (Mem.qk μ);rw[Mem.BQ]at h1;refine h1.Cn λv μ' ⟨μ1,hs,e,hK⟩=>⟨v,μ,λ_ _ h=>h,λb o hb=>?_,hk v hK⟩;rw[e,Mem.bI ((hs b).resolve_right (by rw[hb];simp))];exact hb
theorem Pure.call{r:PV}(h:Pure P g args r)(hk:K r μ):aa P g args μ K:=av.call h λp e=>by subst e;exact hk
theorem av.q{Kp:PV->Prop}(h:av P g args Kp)(hk:∀p,Kp p->K p M0):cV P g args μ K:=λZ u vs hg hw ha=>by
 obtain⟨hc,dr⟩:=h Z ⟨u.toWorld,λ_=>False⟩ vs ⟨hg.Es,λb o e=>by cases e⟩ (λ_ h=>h.elim) ha;refine⟨hc,dr.DG λv lo w' _ _ hp=>?_⟩;obtain⟨Z',μ',p,e,g',hr,hK⟩:=hp;exact⟨Z',M0,p,e.sub (λb o h=>by cases h),g'.sub (λb o h=>by cases h),hr,hk p hK⟩
theorem Pure.q{r:PV}(h:Pure P g args r)(hk:K r M0):cV P g args μ K:=av.q h λp e=>by subst e;exact hk
theorem av.of{Kp:PV->Prop}(h:aa P g args M0 λp _=>Kp (aO.wk p)):av P g args Kp:=aa.wk h
end
def lY(fl:Fl)(n size:Nat)(μ:Mem):Prop:=
 match fl with
 | .sh=>False
 | .nr=>True
 | .nil=>True
 | .nz b c=>μ b=some (.nz (n*size) (c*size))
def Fl.at(fl:Fl)(b:Nat):Prop:=match fl with| .nz b' _=>b=b'|_=>False
theorem aW.go{q:Bool}{size bytes:Nat}{fl:Fl}{rows new:Lq}{μ:Mem}{K:Fl->Mem->Prop}(h:lY fl rows.length size μ)(hb:(rows.length+new.length)*bytes<=140737488355328)(pY:rows.length+new.length<4611686018427387904)
  (hK:∀km μ',lY km (rows.length+new.length) size μ'->(∀b o,μ b=some o->¬fl.at b->μ' b=some o/\¬km.at b)->K km μ') (hq:q=true->∀b c,fl≠ .nz b c:=by first|(intro h;cases h;done)|(intro _ b c h;cases h)):aW q size bytes fl rows new μ K:=by
 refine⟨hb,pY,?_⟩;cases new with
 |nil=>exact hK fl μ (by simpa using h) (λb o h1 h2=>⟨h1,h2⟩)
 |cons r rs=>
  show WB q size fl rows.length (r::rs).length μ K;have nw:∀b c,μ b=none->K (.nz b c) (μ.set b (some (.nz ((rows.length+(r::rs).length)*size) (c*size)))):=λb c hm=>by
   refine hK _ _ (Mem.an _ _ _) λb' o h1 h2=>?_;have aZ:b'≠b:=by rintro rfl;rw[hm]at h1;cases h1
   exact⟨by rw[Mem.ax _ _ aZ];exact h1,aZ⟩
  cases fl with
  |sh=>exact h
  |nr=>exact λb c hm _=>nw b c hm
  |nil=>exact λb c hm _=>nw b c hm
  |nz b c=>
   cases q with
   |true=>exact absurd rfl (hq rfl b c)
   |false=>
    refine⟨h,λb' c' hor _=>hK _ _ (Mem.an _ _ _) λb2 o h1 h2=>?_⟩;have h2:b2≠b:=h2;have aZ:b2≠b':=by
     rintro rfl;rcases hor with e|e
     ·exact h2 e
     ·rw[e]at h1;cases h1
    exact⟨by rw[Mem.ax _ _ aZ,Mem.ax _ _ h2];exact h1,aZ⟩
theorem aW.PN{q:Bool}{size bytes:Nat}{fl:Fl}{rows new:Lq}{μ:Mem}{K:Fl->Mem->Prop}(h:lY fl rows.length size μ)(hb:(rows.length+new.length)*bytes<=140737488355328)(pY:rows.length+new.length<4611686018427387904)
  (hK:∀km μ',lY km (rows.length+new.length) size μ'->K km μ') (hq:q=true->∀b c,fl≠ .nz b c:=by first|(intro h;cases h;done)|(intro _ b c h;cases h)):aW q size bytes fl rows new μ K:=aW.go h hb pY (λkm μ' h1 _=>hK km μ' h1) hq
abbrev Item:=List PV->Mem->Mem->Prop
def WN(P:Program)(f:PV)(items:List Item)(St:Mem->Mem->Prop):Prop:=
 (∃g a b,f=.fn (.func g) a b)/\∀(fy:Fn) (ya yb:List PV) (I:Nat->Mem->Prop) (S:Mem->Prop) (μ:Mem),Bq fy True->(∀μ',St μ μ'->I 0 μ')->
  (∀(k:Nat) (h:k<items.length) (vs:List PV) (μ μ1:Mem),I k μ->items[k] vs μ μ1->bJ P (.fn fy ya yb) vs μ1 λv μ'=>(v=pB true/\I (k+1) μ')\/(v=pB false/\S μ'))->
  bJ P f [.fn fy ya yb] μ λ_ μ'=>I items.length μ'\/S μ'
def vD(vs:List PV):Item:=λo_ μ μ'=>o_=vs/\μ'=μ
abbrev TO(P:Program)(f:PV)(items:Lq):Prop:=WN P f (items.map vD) Eq
theorem bJ.mono{P:Program}{f:PV}{args:List PV}{μ:Mem}{K K':Kq}(h:bJ P f args μ K)(hk:∀v μ',K v μ'->K' v μ'):bJ P f args μ K':=by
 unfold bJ at h |-;split at h
 ·exact h.mono hk
 ·intro Z u fv vs hg hw hf ha;refine pz.mono (h Z u fv vs hg hw hf ha) λv lo w' _ _ hp=>?_;obtain⟨Z',μ',p,e,g',hr,hK⟩:=hp;exact⟨Z',μ',p,e,g',hr,hk p μ' hK⟩
theorem Mem.set_set(μ:Mem)(b:Nat)(o o':Option Ob):(μ.set b o).set b o'=μ.set b o':=by
 funext c;by_cases h:c=b
 ·subst h;simp
 ·rw[Mem.ax _ _ h,Mem.ax _ _ h,Mem.ax _ _ h]
theorem WN.mk{P:Program}{g:FuncId}{a b:List PV}{items:List Item}{St:Mem->Mem->Prop}
  (h:∀(fy:Fn) (ya yb:List PV) (I:Nat->Mem->Prop) (S:Mem->Prop) (μ:Mem),Bq fy True->(∀μ',St μ μ'->I 0 μ')->
   (∀(k:Nat) (h:k<items.length) (vs:List PV) (μ μ1:Mem),I k μ->items[k] vs μ μ1->bJ P (.fn fy ya yb) vs μ1 λv μ'=>(v=pB true/\I (k+1) μ')\/(v=pB false/\S μ'))->
   aa P g (a++[.fn fy ya yb]++b) μ λ_ μ'=>I items.length μ'\/S μ'):WN P (.fn (.func g) a b) items St:=
 ⟨⟨g,a,b,rfl⟩,λfy ya yb I S μ hy h0 cO=>h fy ya yb I S μ hy h0 cO⟩
theorem TO.mk{P:Program}{g:FuncId}{a b:List PV}{items:Lq}
  (h:∀(fy:Fn) (ya yb:List PV) (I:Nat->Mem->Prop) (S:Mem->Prop) (μ:Mem),Bq fy True->I 0 μ->
   (∀(k:Nat) (h:k<items.length) (μ:Mem),I k μ->bJ P (.fn fy ya yb) items[k] μ λv μ'=>(v=pB true/\I (k+1) μ')\/(v=pB false/\S μ'))->
   aa P g (a++[.fn fy ya yb]++b) μ λ_ μ'=>I items.length μ'\/S μ'):TO P (.fn (.func g) a b) items:=
 WN.mk λfy ya yb I S μ hy h0 cO=>by
  have:=h fy ya yb I S μ hy (h0 μ rfl) (λk hk μ hI=>cO k (by simpa using hk) _ μ μ hI (by simp[vD]));simpa using this
def PV.po:PV->Bool
 | .raw _=>true
 |_=>false
def PV.DY:PV->Bool
 | .raw _=>true
 | .agg cs=>cs.all PV.po
 |_=>false
def PV.flat:PV->Bool
 | .raw _=>true
 | .agg cs=>cs.all PV.po
 | .aA vs=>vs.all PV.DY
 |_=>false
theorem bS.po{Z Z':Fz}{p:PV}{v:Value}(hf:p.po=true)(h:bS Z p v):bS Z' p v:=by
 cases p<;>simp[PV.po]at hf;obtain⟨rfl,h1,h2⟩:=h.ofRaw;exact .raw _ h1 h2
theorem bS.DY{Z Z':Fz}{p:PV}{v:Value}(hf:p.DY=true)(h:bS Z p v):bS Z' p v:=by
 cases p<;>simp only[PV.DY]at hf<;>try (cases hf;done)
 ·exact h.po (by rfl)
 ·obtain⟨vs,rfl,hc⟩:=h.qw;exact bq.qe ⟨hc.1,λi p v a b=>⟨(hc.2 i p v a b).1,(hc.2 i p v a b).2.po (all_eq_true.1 hf p (mem_of_getElem? a))⟩⟩
theorem bS.flat{Z Z':Fz}{p:PV}{v:Value}(hf:p.flat=true)(h:bS Z p v):bS Z' p v:=by
 cases p<;>simp only[PV.flat]at hf<;>try (cases hf;done)
 ·exact h.po (by rfl)
 ·exact h.DY hf
 ·obtain⟨vs,rfl,hc⟩:=h.AH;exact bp.uK ⟨hc.1,λi p v a b=>⟨(hc.2 i p v a b).1,(hc.2 i p v a b).2.DY (all_eq_true.1 hf p (mem_of_getElem? a))⟩⟩
structure SlM(μ:Mem)(a:Option Addr)(n c sz:Nat)(rows:Lq):Prop where
 len:rows.length=n
 cap:n<=c
 spot:c=0\/iq a
 each:∀r∈rows,r.length=sz
 cell:aQ rows.flatten=true
 read:n≠0->∃b o,a=some ⟨b,o,none⟩/\ay μ b o (n*sz)=some rows.flatten
def cellsOf:Option Ob->Option (List PV)
 |some (.cells _ cs)=>some cs
 |some (.ro _ cs)=>some cs
 |_=>none
def iL(Z:Fz)(u:UW)(μ:Mem):Fz:=λb=>match cellsOf (μ b)with|some _=>(match u.heap[b]? with|some (.cells A _ _)=>some A.toList|_=>none)|none=>Z b
theorem tV{Z:Fz}{u:UW}{μ:Mem}(hg:Good Z u μ){b:Nat}{cs:List PV}(hm:cellsOf (μ b)=some cs):Z b=none/\∃(A:Array Value) (T:TypeId),u.heap[b]?=some (.cells A T (0,0))/\cD Z cs A.toList:=by
 unfold cellsOf at hm;split at hm
 ·rename_i T OR e;cases hm;obtain⟨_,hz,A,hA,hc⟩:=hg.mem b _ e;exact⟨hz,A,T,hA,hc⟩
 ·rename_i T OR e;cases hm;obtain⟨_,hz,A,hA,hc⟩:=hg.mem b _ e;exact⟨hz,A,T,hA,hc⟩
 ·cases hm
theorem gG{Z:Fz}{u:UW}{μ:Mem}(hg:Good Z u μ):Z.le (iL Z u μ):=λb C hC=>by
 refine⟨C,?_,prefix_refl _⟩;unfold iL;split
 ·rename_i cs hm;have hz:=(tV hg hm).1;rw[hz]at hC;cases hC
 ·exact hC
theorem Nf{Z:Fz}{u:UW}{μ:Mem}(hg:Good Z u μ){b:Nat}{cs:List PV}(hm:cellsOf (μ b)=some cs):∃A:Array Value,iL Z u μ b=some A.toList/\cD Z cs A.toList:=by
 obtain⟨hz,A,T,hA,hc⟩:=tV hg hm;refine⟨A,?_,hc⟩;unfold iL;rw[hm];simp only[hA]
theorem YC{μ:Mem}{b o n:Nat}{r:List PV}(h:ay μ b o n=some r):∃cs,cellsOf (μ b)=some cs/\o+n<=cs.length/\r=(cs.drop o).take n:=by
 unfold ay at h;split at h
 ·rename_i e;split at h
  ·rename_i hl;cases h;exact⟨_,by rw[e];rfl,hl,rfl⟩
  ·cases h
 ·rename_i e;split at h
  ·rename_i hl;cases h;exact⟨_,by rw[e];rfl,hl,rfl⟩
  ·cases h
 ·cases h
inductive gf(μ:Mem):PV->PV->Prop where
 |same (c:PV):gf μ c c
 |wk (c:PV):gf μ c (bV c)
 |nil (sz:Nat) (rows:Lq):gf μ (.list sz .nil rows) (.raw (.slice none 0 0))
 |Ke (a:Option Addr) (k sz:Nat) (spot:k=0\/iq a):gf μ (.raw (.slice a 0 k)) (.list sz .sh [])
 |lst (b o k sz:Nat) (rows:Lq) (cs:List PV) (cap:rows.length<=k) (each:∀r∈rows,r.length=sz) (cell:aQ rows.flatten=true) (read:ay μ b o (rows.length*sz)=some cs) (h:∀(i:Nat) c d,cs[i]?=some c->rows.flatten[i]?=some d->gf μ c d):gf μ (.raw (.slice (some ⟨b,o,none⟩) rows.length k)) (.list sz .sh rows)
 |agg {cs ds:List PV} (hl:cs.length=ds.length) (cell:aQ ds=true) (h:∀(i:Nat) c d,cs[i]?=some c->ds[i]?=some d->gf μ c d):gf μ (.agg cs) (.agg ds)
 |aA {cs ds:List PV} (hl:cs.length=ds.length) (ok:∀d∈ds,d.ok=true) (h:∀(i:Nat) c d,cs[i]?=some c->ds[i]?=some d->gf μ c d):gf μ (.aA cs) (.aA ds)
theorem gf.rep{Z:Fz}{u:UW}{μ:Mem}(hg:Good Z u μ){c d:PV}(hb:gf μ c d):∀{v:Value},bS Z c v->bS (iL Z u μ) d v:=by
 induction hb with
 |same=>exact λhr=>hr.mono (gG hg)
 |wk=>exact λhr=>hr.bV.mono (gG hg)
 |nil sz rows=>
  intro v hr;cases hr with
  |list _ _ _ _ _ _ b o C g hn hc hs hr ha hgg hk hp hf=>
   obtain⟨rfl,rfl,rfl⟩:=hf;exact .raw _ rfl rfl
 |Ke a k sz spot=>
  intro v hr;rw[hr.ofRaw.1];exact .list sz .sh [] a 0 k 0 0 [] (λ_ _=>undef) rfl (zero_le _) spot (by simp) (λh=>absurd rfl h) (λi j hi=>by omega) (by simp) (by simp) trivial
 |lst b o k sz rows cs cap each cell read h ih=>
  intro v hr;rw[hr.ofRaw.1];obtain⟨cs0,hm,hl,rfl⟩:=YC read;obtain⟨A,hz,hrm⟩:=Nf hg hm;have VU:A.toList.length=cs0.length:=hrm.1;have mu:rows.flatten.length=rows.length*sz:=dV each;have hv:bq (iL Z u μ) rows.flatten ((A.toList.drop o).take (rows.length*sz)):=by
   refine⟨by rw[List.length_take,List.length_drop,mu];omega,λi d v hd hv=>?_⟩;have hcd:d.cell=true:=by
    have:=all_eq_true.1 cell d (mem_of_getElem? hd);exact this
   have hi:i<rows.length*sz:=by rw[<- mu];exact(List.getElem?_eq_some_iff.1 hd).1
   have hc:((cs0.drop o).take (rows.length*sz))[i]?=some (cs0[o+i]'(by omega)):=by
    rw[getElem?_take,if_pos hi,getElem?_drop,getElem?_eq_getElem (by omega)]
   rw[getElem?_take,if_pos hi,getElem?_drop]at hv;exact⟨hcd,ih i _ d hc hd (hrm.2 (o+i) _ v (getElem?_eq_getElem (by omega)) hv)⟩
  exact qn (Z:=iL Z u μ) (sz:=sz) (fl:=.sh) (rows:=rows) (b:=b) (o:=o) (c:=k) (C:=A.toList) each hv hz (λj hj=>by
   rw[getElem?_take,if_pos (by simp at hj;omega),getElem?_drop]) cap trivial
 |agg hl cell h ih=>
  intro v hr;obtain⟨vs,rfl,hc⟩:=hr.qw;refine bq.qe ⟨hc.1.trans hl,λi d v hd hv=>?_⟩;rename_i cs ds;have bG:i<cs.length:=by rw[hl];exact(List.getElem?_eq_some_iff.1 hd).1
  have hi:cs[i]?=some cs[i]:=getElem?_eq_getElem bG;exact⟨all_eq_true.1 cell d (mem_of_getElem? hd),ih i _ d hi hd (hc.2 i _ v hi hv).2⟩
 |aA hl ok h ih=>
  intro v hr;obtain⟨vs,rfl,hc⟩:=hr.AH;refine bp.uK ⟨hc.1.trans hl,λi d v hd hv=>?_⟩;rename_i cs ds;have bG:i<cs.length:=by rw[hl];exact(List.getElem?_eq_some_iff.1 hd).1
  have hi:cs[i]?=some cs[i]:=getElem?_eq_getElem bG;exact⟨ok d (mem_of_getElem? hd),ih i _ d hi hd (hc.2 i _ v hi hv).2⟩
theorem gf.list{μ:Mem}{a:Option Addr}{n k sz:Nat}{rows:Lq}(h:SlM μ a n k sz rows):gf μ (.raw (.slice a n k)) (.list sz .sh rows):=by
 by_cases hn:n=0
 ·have:rows=[]:=eq_nil_of_length_eq_zero (by rw[h.len,hn]);subst this hn;exact .Ke a k sz h.spot
 ·obtain⟨b,o,rfl,hr⟩:=h.read hn;obtain rfl:=h.len;exact .lst b o k sz rows _ h.cap h.each h.cell hr λi c d hc hd=>by rw[hc]at hd;cases hd;exact .same _
def dI(μ:Mem)(cs ds:List PV):Prop:=cs.length=ds.length/\∀(i:Nat) c d,cs[i]?=some c->ds[i]?=some d->gf μ c d
theorem dI.refl(μ:Mem)(cs:List PV):dI μ cs cs:=⟨rfl,λi c d h1 h2=>by rw[h1]at h2;cases h2;exact .same _⟩
theorem dI.nil(μ:Mem):dI μ [] []:=dI.refl μ []
theorem dI.cons{μ:Mem}{c d:PV}{cs ds:List PV}(h:gf μ c d)(k:dI μ cs ds):dI μ (c::cs) (d::ds):=⟨by simp[k.1],λi x y h1 h2=>by
 cases i with
 |zero=>simp at h1 h2;subst h1 h2;exact h
 |succ i=>exact k.2 i x y h1 h2⟩
theorem dI.rep{Z:Fz}{u:UW}{μ:Mem}(hg:Good Z u μ){cs ds:List PV}{vs:List Value}(hb:dI μ cs ds)(hr:cD Z cs vs):cD (iL Z u μ) ds vs:=by
 refine⟨hr.1.trans hb.1,λi d v hd hv=>?_⟩;have bG:i<cs.length:=by rw[hb.1];exact(List.getElem?_eq_some_iff.1 hd).1
 have hi:cs[i]?=some cs[i]:=getElem?_eq_getElem bG;exact(hb.2 i _ d hi hd).rep hg (hr.2 i _ v hi hv)
theorem gF{Z:Fz}{u:UW}{μ:Mem}{b:Nat}(h:μ b=none):iL Z u μ b=Z b:=by
 unfold iL;rw[h];rfl
theorem qZ{Z:Fz}{u:UW}{μ μ1:Mem}(hg:Good Z u μ):∀b C,iL Z u μ1 b=some C->∃A T f,u.heap[b]?=some (.cells A T f)/\C <+: A.toList:=λb C hC=>by
 unfold iL at hC;split at hC
 ·split at hC
  ·rename_i A T f hA;cases hC;exact⟨A,T,f,hA,prefix_refl _⟩
  ·cases hC
 ·exact hg.Es b C hC
theorem aa.query{P:Program}{g:FuncId}{args:List PV}{μ ν μ1:Mem}{K:Kq}{Kq:PV->Prop}(h:aa P g args ν λp _=>Kq p)(h1:∀b o,μ1 b=some o->μ b=some o)
  (hν:∀b o,ν b=some o->μ1 b=none/\∃T cs ds,o=.ro T ds/\μ b=some (.cells T cs)/\dI μ1 cs ds) (hf:∀p,Kq p->p.flat=true) (hk:∀p,Kq p->K p μ):aa P g args μ K:=λZ u vs hg hw ha=>by
 have Kw:Good Z u μ1:=hg.sub h1;have hle:=gG Kw;have hgb:Good (iL Z u μ1) ⟨u.toWorld,λ_=>False⟩ ν:=by
  refine⟨qZ hg,λb o ho=>?_⟩;obtain⟨hn,T,cs,ds,rfl,hm,hb⟩:=hν b o ho;obtain⟨_,hz,A,hA,hc⟩:=hg.mem b _ hm;exact⟨λhr=>(by cases hr),(gF hn).trans hz,A,hA,hb.rep Kw hc⟩
 obtain⟨hc,F,hF,dr⟩:=h (iL Z u μ1) ⟨u.toWorld,λ_=>False⟩ vs hgb (λ_ h=>h.elim) (bp.mono hle ha);refine⟨hc,F,λb hb=>(hF b hb).elim,dr.mono λv lo w' hm Zx hp=>?_⟩;obtain⟨Z',μ',p,e,g',hr,hK⟩:=hp;have cu:∀b,b<u.heap.size->w'.heap[b]?=u.heap[b]?:=λb hb=>hm.cu b hb λhf=>hF b hf;refine⟨Z,μ,p,hg.ext,hg.go (Fz.le.refl Z) (λb C hC=>.inl ⟨hC,cu b (hg.Cy (by rw[hC];simp))⟩) (λb o ho=>.inl ⟨ho,cu b (hg.Px (by rw[ho];simp)),λhp=>.inl hp,rfl⟩),hr.flat (hf p hK),hk p hK⟩
def GU(μ μ':Mem):Prop:=∀(Z:Fz) (u:UW),Good Z u μ->∃Z',Ext Z μ u.heap.size Z' μ'/\Good Z' u μ'
theorem GU.refl(μ:Mem):GU μ μ:=λZ u hg=>⟨Z,hg.ext,hg⟩
theorem aa.pre{P:Program}{g:FuncId}{args:List PV}{μ μ':Mem}{K:Kq}(hG:GU μ μ')(h:aa P g args μ' K):aa P g args μ K:=λZ u vs hg hw ha=>by
 obtain⟨Z',e,g'⟩:=hG Z u hg;obtain⟨hc,F,hF,h⟩:=h Z' u vs g' hw (bp.mono e.le ha);refine⟨hc,F,hF,h.mono λv lo w' _ hs hp=>?_⟩;obtain⟨Z'',mZ,p,e',g'',hr,hK⟩:=hp;exact⟨Z'',mZ,p,e.trans e' (le_refl _),g'',hr,hK⟩
theorem aa.post{P:Program}{g:FuncId}{args:List PV}{μ:Mem}{K:Kq}(h:aa P g args μ λv μ'=>∃mZ,GU μ' mZ/\K v mZ):aa P g args μ K:=λZ u vs hg hw ha=>by
 obtain⟨hc,F,hF,h⟩:=h Z u vs hg hw ha;refine⟨hc,F,hF,h.mono λv lo w' hm hs hp=>?_⟩;obtain⟨Z',μ',p,e,g',hr,mZ,hG,hK⟩:=hp;obtain⟨Z'',e',g''⟩:=hG Z' _ g';exact⟨Z'',mZ,p,e.trans e' hm.size,g'',hr.mono e'.le,hK⟩
theorem GU.bor{μ μ1 μ':Mem}(h1:∀b o,μ1 b=some o->μ b=some o)(h:∀b o,μ' b=some o->μ1 b=none/\(μ b=some o\/∃T cs ds,o=.cells T ds/\μ b=some (.cells T cs)/\dI μ1 cs ds)):GU μ μ':=λZ u hg=>by
 have Kw:Good Z u μ1:=hg.sub h1;have hle:=gG Kw;have hmu:∀b,μ b=none->μ1 b=none:=λb hb=>by
  cases hx:μ1 b with
  |none=>rfl
  |some o=>rw[h1 b o hx]at hb;cases hb
 refine⟨iL Z u μ1,⟨hle,λb C hC hn=>?_,λb hb=>?_,λb hb=>?_,λ_ h'=>hg.Cy h'⟩,qZ hg,λb o ho=>?_⟩
 ·rw[gF (hmu b hn)];exact hC
 ·cases hx:μ1 b with
  |none=>rw[gF hx]at hb;exact .inl hb
  |some o=>exact .inr (.inl (by rw[h1 b o hx];simp))
 ·cases hx:μ' b with
  |none=>exact absurd hx hb
  |some o=>
   rcases(h b o hx).2 with e|⟨T,cs,ds,_,e,_⟩
   ·exact .inl (by rw[e];simp)
   ·exact .inl (by rw[e];simp)
 ·obtain⟨hn,e|⟨T,cs,ds,rfl,e,hb⟩⟩:=h b o ho
  ·obtain⟨g1,g2⟩:=hg.mem b o e;exact⟨g1,g2.go hle (gF hn) rfl⟩
  ·obtain⟨g1,hz,A,hA,hc⟩:=hg.mem b _ e;exact⟨λ_=>g1 rfl,(gF hn).trans hz,A,hA,hb.rep Kw hc⟩
theorem aa.ach{P:Program}{g:FuncId}{args:List PV}{μ:Mem}{K:PV->Prop}(h:aa P g args μ λv μ'=>∃v',gf μ' v v'/\K v'):aa P g args μ λv _=>K v:=λZ u vs hg hw ha=>by
 obtain⟨hc,F,hF,h⟩:=h Z u vs hg hw ha;refine⟨hc,F,hF,h.mono λv lo w' hm hs hp=>?_⟩;obtain⟨Z',μ',p,e,g',hr,v',hb,hK⟩:=hp;have hG:GU μ' M0:=GU.bor (μ1:=μ') (λ_ _ h=>h) λb o h=>by cases h
 have hle:=gG g';refine⟨iL Z' (u.ret lo w') μ',M0,v',⟨e.le.trans hle,λb C hC hn=>?_,λb je=>?_,λb je=>absurd rfl je,e.lt⟩,⟨qZ g',λb o h=>by cases h⟩,hb.rep g' hr,hK⟩
 ·have h1:=e.zs b C hC hn;obtain⟨C',h2,_⟩:=hle b C h1;have:μ' b=none:=by
   cases hx:μ' b with
   |none=>rfl
   |some o=>
    rcases e.mn b (by rw[hx];simp)with h3|h3
    ·exact absurd hn h3
    ·have:=e.lt b (by rw[hC];simp);omega
  rw[gF this];exact h1
 ·cases hx:μ' b with
  |none=>rw[gF hx]at je;exact e.zn b je
  |some o=>exact .inr (e.mn b (by rw[hx];simp))
theorem aa.view{P:Program}{g:FuncId}{args sL:List PV}{μ:Mem}{K:Kq}{Kp:PV->Prop}(h:av P g sL Kp)(hl:args.length=sL.length)(hb:∀(i:Nat) p q,args[i]?=some p->sL[i]?=some q->gf μ p q/\q.ok=true)(hf:∀p,Kp p->p.flat=true)(hk:∀p,Kp p->K p μ):aa P g args μ K:=λZ u vs hg hw ha=>by
 have hgb:Good (iL Z u μ) ⟨u.toWorld,λ_=>False⟩ M0:=⟨qZ hg,λb o h=>by cases h⟩
 have ha':bp (iL Z u μ) sL vs:=⟨ha.1.trans hl,λi q v hq hv=>by
  have bG:i<args.length:=by rw[hl];exact(List.getElem?_eq_some_iff.1 hq).1
  have hp:args[i]?=some args[i]:=getElem?_eq_getElem bG
  obtain⟨h1,h2⟩:=hb i _ q hp hq
  exact⟨h2,h1.rep hg (ha.2 i _ v hp hv).2⟩⟩
 obtain⟨hc,F,hF,dr⟩:=h (iL Z u μ) ⟨u.toWorld,λ_=>False⟩ vs hgb (λ_ h=>h.elim) ha';refine⟨hc,F,λb hb=>(hF b hb).elim,dr.mono λv lo w' hm Zx hp=>?_⟩;obtain⟨Z',μ',p,e,g',hr,hK⟩:=hp;have cu:∀b,b<u.heap.size->w'.heap[b]?=u.heap[b]?:=λb hb=>hm.cu b hb λhf=>hF b hf;refine⟨Z,μ,p,hg.ext,hg.go (Fz.le.refl Z) (λb C hC=>.inl ⟨hC,cu b (hg.Cy (by rw[hC];simp))⟩) (λb o ho=>.inl ⟨ho,cu b (hg.Px (by rw[ho];simp)),λhp=>.inl hp,rfl⟩),hr.flat (hf p hK),hk p hK⟩
theorem aa.freeze{P:Program}{g:FuncId}{args:List PV}{μ:Mem}{K K':Kq}(h:aa P g args μ K)(hk:∀v μ',K v μ'->∃(v':PV) (mZ:Mem) (bs:List Nat),(∀Z u r,Good Z u μ'->bS Z v r->bS (iL Z u λb=>if b∈bs then μ' b else none) v' r)/\(∀b o,mZ b=some o->μ' b=some o/\b∉bs)/\K' v' mZ):aa P g args μ K':=λZ u vs hg hw ha=>by
 obtain⟨hc,h⟩:=h Z u vs hg hw ha;refine⟨hc,h.DG λv lo w' _ _ hp=>?_⟩;obtain⟨Z',μ',p,e,g',hr,hK⟩:=hp;obtain⟨v',mZ,bs,h1,h2,h3⟩:=hk p μ' hK;have gs:Good Z' (u.ret lo w') (λb=>if b∈bs then μ' b else none):=g'.sub λb o hb=>by
  by_cases hm:b∈bs
  ·rw[if_pos hm]at hb;exact hb
  ·rw[if_neg hm]at hb;cases hb
 have hzb:∀b,b∉bs->iL Z' (u.ret lo w') (λb=>if b∈bs then μ' b else none) b=Z' b:=λb hb=>by
  unfold iL;simp[hb,cellsOf]
 refine⟨iL Z' (u.ret lo w') (λb=>if b∈bs then μ' b else none),mZ,v',⟨e.le.trans (gG gs),λb C hC hn=>?_,λb hb=>?_,λb hb=>?_,e.lt⟩,g'.go (gG gs) (λb C hC=>?_) (λb o ho=>?_),h1 Z' _ _ g' hr,h3⟩
 ·have h4:=e.zs b C hC hn;obtain⟨C',h5,_⟩:=gG gs b C h4;unfold iL at h5 |-;split
  ·rename_i cs hm;have hz:=(tV gs hm).1;rw[h4]at hz;cases hz
  ·exact h4
 ·by_cases hm:b∈bs
  ·cases hx:μ' b with
   |none=>unfold iL at hb;simp[hm,hx,cellsOf]at hb;exact e.zn b hb
   |some o=>exact .inr (e.mn b (by rw[hx];simp))
  ·rw[hzb b hm]at hb;exact e.zn b hb
 ·cases hx:mZ b with
  |none=>exact absurd hx hb
  |some o=>exact e.mn b (by rw[(h2 b o hx).1];simp)
 ·by_cases hm:b∈bs
  ·unfold iL at hC;split at hC
   ·split at hC
    ·rename_i A T f hA;cases hC;exact .inr ⟨A,T,f,hA,prefix_refl _⟩
    ·cases hC
   ·exact .inl ⟨hC,rfl⟩
  ·rw[hzb b hm]at hC;exact .inl ⟨hC,rfl⟩
 ·obtain⟨h4,h5⟩:=h2 b o ho;exact .inl ⟨h4,rfl,id,hzb b h5⟩
theorem aH{T:Type}{pv:T->List PV}{l:List T}{k:Nat}(hk:k<l.length):(l.map pv)[Int.toNat (k:Int)]?=some (pv l[k]):=by
 rw[Int.toNat_natCast,List.getElem?_map,getElem?_eq_getElem hk];rfl
def jF(w:World):Fz:=λb=>match w.heap[b]? with|some (.cells A _ _)=>some A.toList|_=>none
theorem WH{w:World}{b:Nat}{A:Array Value}{T:TypeId}{f:Nat×Nat}(h:w.heap[b]?=some (.cells A T f)):jF w b=some A.toList:=by simp[jF,h]
theorem Pj(w:World):Good (jF w) ⟨w,λ_=>False⟩ M0:=by
 refine⟨λb C hC=>?_,λb o h=>by cases h⟩;unfold jF at hC;split at hC
 ·rename_i A T f h;cases hC;exact⟨A,T,f,h,prefix_refl _⟩
 ·cases hC
theorem av.calls{P:Program}{g:FuncId}{args:List PV}{K:PV->Prop}{w:World}{vs:List Value}(h:av P g args K)(ha:bp (jF w) args vs):Calls P g vs.toArray w λe w'=>(∃v p Z,e=.returned v/\bS Z p v/\K p)/\Below w.heap.size w w':=by
 obtain⟨_,F,hF,dr⟩:=h (jF w) ⟨w,λ_=>False⟩ vs (Pj w) (λ_ h=>h.elim) ha;refine(dr w (xT.refl w)).mono λe w' ⟨v,w2,he,ho,Z',μ',p,_,_,hr,hK⟩=>⟨⟨v,p,Z',he,hr,hK⟩,?_⟩;exact⟨ho.mod.os,ho.mod.tape,ho.mod.output,ho.mod.size,λb hb=>ho.mod.cu b hb λhf=>hF b hf⟩
end Go.aO
namespace Go.Proofs.YthaeiehophlooaaGreat
open Go.Proofs.Tryz Go.aO Go.RowKit
set_option maxRecDepth 100000
def zS(c:Nat):Nat:=(97+((c:Int)-97+13) % 256 % 26).toNat
def dn(s:ByteArray):ByteArray:=if h:0<s.size then ByteArray.empty.push (UInt8.ofNat (zS (s[0]'h).toNat))++s.extract 1 s.size else⟨#[]⟩
theorem Uw(w:World)(n:Int):Sem.run prog (convert 103 9 (.slice (some {block:=w.heap.size,off:=0}) 1 1)) (w.alloc (.cells #[.int .u8 n] 5)).drew=.ok (.string (ByteArray.empty.push (UInt8.ofNat n.toNat))) (w.alloc (.cells #[.int .u8 n] 5)).drew:=by
 rw[run_convert_bytes_string _ _ _ _ _ _ _ underlying103 underlying5 underlying9];rw[run_bytesToString _ _ _ _ [n] ?_]
 ·rfl
 ·refine run_loadCells_list _ _ [.int .u8 n] λj v hj=>?_
  match j with
  |0=>simp at hj;subst hj;simp[Addr.add]
  |j+1=>simp at hj
theorem J_(s:ByteArray)(he:s.toList.isEmpty=true)(w:World):Calls prog 11 #[.string s] w λe w'=>e=.returned (.string ⟨#[]⟩)/\Below w.heap.size w w':=by
 go_enter func11,Tryz.ntmps11
 go_wp2
 all_goals go_ret
 exact⟨rfl,Below.refl _ _⟩
theorem Og(s:ByteArray)(hs:s.size<=1000000000)(h0:0<s.size)(w:World):Calls prog 11 #[.string s] w λe w'=>e=.returned (.string (ByteArray.empty.push (UInt8.ofNat (zS (s[0]'h0).toNat))++s.extract 1 s.size))/\Below w.heap.size w w':=by
 have kc:=Uw;have hx:(s.extract 1 s.size).size<=1000000000:=by rw[ByteArray.size_extract];omega
 have ka:∀(x:UInt8) (w:World),(Op.stringOp .add (ByteArray.empty.push x) (s.extract 1 s.size)).run prog w=.ok (.string (ByteArray.empty.push x++s.extract 1 s.size)) w:=λx w=>run_string_add_sum _ _ _ (by have:(ByteArray.empty.push x).size=1:=rfl;omega);have he:s.toList.isEmpty=false:=by
  rw[List.isEmpty_eq_false_iff,ByteArray.toList_eq];intro e;have h1:s.data.toList.length=0:=by rw[e];rfl
  have h2:s.size=s.data.toList.length:=rfl;omega
 clear hx
 go_enter func11,Tryz.ntmps11
 go_wp2
 all_goals go_region
 all_goals go_wp2
 all_goals go_ret
 exact⟨rfl,((Below.refl _ _).alloc (le_refl _) _).drew⟩
theorem Pure.UY{P:Program}{g:FuncId}{args:List PV}{vs:List Value}{v:Value}{r:PV}(hc:dg P g=true)(ha:∀(Z:Fz) (xs:List Value),bp Z args xs->xs=vs)(hr:∀Z:Fz,bS Z r v)
  (h:∀w,Calls P g vs.toArray w λe w'=>e=.returned v/\Below w.heap.size w w'):Pure P g args r:=by
 intro Z u xs hg hw hx;obtain rfl:=ha Z xs hx;refine⟨hc,λ_=>False,λ_ h=>h.elim,λw1 hs=>?_⟩;refine(h w1).mono λe wr ⟨he,hb⟩=>?_;refine⟨v,u.toWorld,he,⟨⟨hb.os,hb.tape,hb.output,hb.size,λb je _=>hb.block b je⟩,⟨hb.os.trans hs.os,hb.tape.trans hs.tape,hb.output.trans hs.output,le_trans hs.size hb.size,λb je=>?_⟩,Mod.refl _ _,λb h1 _ h2=>by omega⟩,Z,M0,r,?_,?_,hr Z,rfl⟩
 ·rw[hb.block b (Nat.lt_of_lt_of_le je hs.size)];exact hs.block b je
 ·exact hg.ext
 ·exact⟨hg.Es,λb o e=>by cases e⟩
theorem mW(s:ByteArray)(hs:s.size<=1000000000):Pure prog 11 [pS s] (pS (dn s)):=by
 refine Pure.UY (vs:=[.string s]) (v:=.string (dn s)) (by kernel_rfl) (λZ xs hx=>?_) (λZ=>.raw _ rfl rfl) λw=>?_
 ·obtain⟨hl,h⟩:=hx
  match xs,hl with
  |[x],_=>
   have:=(h 0 _ _ rfl rfl).2.ofRaw.1;rw[this]
 ·unfold dn;split
  ·rename_i h0;exact Og s hs h0 w
  ·rename_i h0;refine J_ s ?_ w;rw[List.isEmpty_iff,ByteArray.toList_eq];exact eq_nil_of_length_eq_zero (by have:s.size=s.data.toList.length:=rfl;omega)
end Go.Proofs.YthaeiehophlooaaGreat
