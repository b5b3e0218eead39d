import Derived.Test.YtbodiiomcfgokaaGreatB04
set_option linter.all false
namespace Go.aK
open Go.RowKit
theorem MB{size sz:Nat}{rows:Lq}(h:vD size sz rows=true):sz=size\/rows=[]:=by
 unfold vD at h
 cases hb:Nat.beq sz size with
 |true=>exact .inl (beq_iff.1 hb)
 |false=>
  rw[hb]at h
  simp only[cond_false]at h
  split at h
  ·exact .inr rfl
  ·cases h
theorem Ext.sub{Z Z':Fz}{μ μ' pf:Mem}{N:Nat}(h:Ext Z μ N Z' μ')(hs:pf.sub μ'):Ext Z μ N Z' pf:=
 ⟨h.le,h.zs,h.zn,λb hb=>by
  cases hx:pf b with
  |none=>exact absurd hx hb
  |some o=>exact h.mn b (by rw[hs b o hx];simp),h.lt⟩
theorem cy.size{Z:Fz}{sz size:Nat}{fl:Fl}{rows:Lq}{w:Value}(h:cy Z (.list sz fl rows) w)(hs:vD size sz rows=true):cy Z (.list size fl rows) w:=by
 rcases MB hs with rfl|rfl
 ·exact h
 ·exact h.Hw
theorem Og{Z:Fz}{sz:Nat}{fl:Fl}{rows:Lq}{w:Value}(h:cy Z (.list sz fl rows) w):∀r∈rows,r.length=sz:=by
 cases h;assumption
theorem XC{P:Program}{e:TypeId}{size bytes zl:Nat}(h:(P.info? e).map (λi=>(i.size,i.bytes,i.zero.map λz=>z.cells.toList.length))=some (size,bytes,some zl)):
  ∃zero:List Value,(P.info? e).map (λi=>(i.size,i.bytes,i.zero.map λz=>z.cells.toList))=some (size,bytes,some zero)/\zero.length=zl:=by
 cases hi:P.info? e with
 |none=>rw[hi]at h;cases h
 |some i=>
  rw[hi]at h
  simp only[Option.map_some,Option.some.injEq,Prod.mk.injEq]at h
  obtain⟨h1,h2,h3⟩:=h
  cases hz:i.zero with
  |none=>rw[hz]at h3;cases h3
  |some z=>
   rw[hz]at h3
   simp only[Option.map_some,Option.some.injEq]at h3
   exact⟨z.cells.toList,by simp[h1,h2,hz],h3⟩
section
variable {E:mh} {q:Bool} {fz:List Nat} {o:Oper} {p:eI} {s:St} {μ:Mem} {u:UW} {KP:eI->Mem->Prop} {K:St->UW->Prop} {Z:Fz}
theorem Ny{P:Program}{e:TypeId}{size bytes:Nat}{zero:List Value}{fl:Fl}{rows new:Lq}{fy:Fl}{xa yb:Option Addr}{n cap m R_:Nat}{KF:Fl->Mem->Prop}{KV:Value->UW->Prop}(hg:Good Z u μ)(hw:Wf u)
  (ht:(P.info? e).map (λi=>(i.size,i.bytes,i.zero.map λz=>z.cells.toList))=some (size,bytes,some zero)) (Gn:zero.length=size) (Qy:size≠0)
  (hx:cy Z (.list size fl rows) (.slice xa n cap)) (hy:cy Z (.list size fy new) (.slice yb m R_)) (h:aV q size bytes fl rows new μ KF)
  (hK:∀(Z':Fz) (μ':Mem) (lT:Fl) (v:Value) (u':UW),Ext Z μ u.heap.size Z' μ'->Good Z' u' μ'->Wf u'->u.heap.size<=u'.heap.size->(q=true->Below u.heap.size u.toWorld u'.toWorld)->cy Z' (.list size lT (rows++new)) v->KF lT μ'->KV v u'):
  Rn P e xa n cap yb m u λa n' c' u'=>KV (.slice a n' c') u':=by
 obtain⟨Ya,tN,h⟩:=h
 obtain⟨_,_,_,ex,RF,hxc,hxs,hxf⟩:=hx.ofList
 cases ex
 obtain⟨_,_,_,ey,OE,hyc,hys,hyf⟩:=hy.ofList
 cases ey
 obtain⟨vx,rx,lx,zx,nx⟩:=vM hg hx (λ_=>Qy)
 obtain⟨vy,ry,ly,zy,ny⟩:=vM hg hy (λ_=>Qy)
 rw[RF,OE]at Ya tN
 have eT:∀r∈rows++new,r.length=size:=λr hr=>(List.mem_append.1 hr).elim (Og hx r) (Og hy r)
 have TV:new=[]↔m=0:=by
  constructor
  ·rintro rfl;simpa using OE.symm
  ·intro h0;exact List.eq_nil_of_length_eq_zero (by omega)
 refine⟨size,bytes,zero,vx,vy,ht,zy,λhm=>?_,zx,λhn=>?_,hxc,Ya,tN,Gn,λv hv=>(ry.zt v hv).2,λyl=>?_,λcm=>?_⟩
 ·obtain⟨b,o,C,rfl,_,hr,_⟩:=ny hm;exact hr
 ·obtain⟨b,o,C,rfl,_,hr,_⟩:=nx hn;exact hr
 ·by_cases hm:m=0
  ·left
   refine⟨hm,?_⟩
   have:=TV.2 hm
   subst this
   exact hK Z μ fl _ u hg.ext hg hw (Nat.le_refl _) (λ_=>Below.refl _ _) (by rw[List.append_nil];exact hx) h
  ·right
   refine⟨hm,?_⟩
   have aT:new≠[]:=λe=>hm (TV.1 e)
   have h:YM q size fl rows.length new.length μ KF:=by
    unfold acE at h
    cases new with
    |nil=>exact absurd rfl aT
    |cons r rs=>exact h
   cases fl with
   |sh=>exact h.elim
   |nr=>have:cap=n:=hxf;omega
   |nil=>obtain⟨_,h1,h2⟩:xa=none/\n=0/\cap=0:=hxf;omega
   |pU b c=>
    obtain⟨rfl,rfl⟩:xa=some ⟨b,0,none⟩/\cap=c:=hxf
    cases q with
    |true=>exact h.elim
    |false=>
     obtain⟨ZE,h⟩:=h
     show wx b (0+n*size) vy u _
     rw[Nat.zero_add]
     rw[RF]at ZE
     have hle:n*size+m*size<=cap*size:=by rw[<- Nat.add_mul];exact Nat.mul_le_mul_right _ yl
     refine hg.grow ZE (by rw[ly];exact hle) (λw' C hC hCl g1 g2 gD hwf=>?_) hw
     have hvx:vx=C:=by
      by_cases RM:n=0
      ·rw[zx RM];exact(List.eq_nil_of_length_eq_zero (by rw[hCl,RM];simp)).symm
      ·obtain⟨b',o',C',e1,e2,_,e4⟩:=nx RM
       simp only[Option.some.injEq,Addr.mk.injEq]at e1
       obtain⟨rfl,rfl,_⟩:=e1
       rw[hC]at e2;cases e2
       rw[e4,List.drop_zero,<- hCl,List.take_length]
     have ajY:(μ.set b none).set b (some (.pU ((rows.length+new.length)*size) (cap*size)))=μ.set b (some (.pU (n*size+vy.length) (cap*size))):=by
      funext x
      by_cases e:x=b
      ·subst e;simp[RF,OE,ly,Nat.add_mul]
      ·rw[Mem.aC _ _ e,Mem.aC _ _ e,Mem.aC _ _ e]
     have hk:=h b cap (.inl rfl) (by rw[RF,OE];exact yl)
     rw[ajY]at hk
     refine hK _ _ _ _ _ g2 g1 hwf gD (λh=>by cases h) ?_ hk
     have EC:=su (Z:=Z.set b (C++vy)) (sz:=size) (fl:=.pU b cap) (rows:=rows++new) (vs:=vx++vy) (b:=b) (o:=0) (c:=cap) (C:=C++vy) eT (by rw[List.flatten_append];exact(rx.mono g2.le).append (ry.mono g2.le)) (Fz.aq _ _ _) (λk _=>by rw[hvx,Nat.zero_add]) (by rw[List.length_append,RF,OE];exact yl) ⟨rfl,rfl⟩
     rw[List.length_append,RF,OE]at EC
     exact EC
 ·intro c b rest w' hc EC hB
  have hm:m≠0:=by omega
  have aT:new≠[]:=λe=>hm (TV.1 e)
  have h:YM q size fl rows.length new.length μ KF:=by
   unfold acE at h
   cases new with
   |nil=>exact absurd rfl aT
   |cons r rs=>exact h
  have hlen:(vx++vy).length=(rows.length+new.length)*size:=by rw[List.length_append,lx,ly,RF,OE,Nat.add_mul]
  obtain⟨g1,g2,g3⟩:=hg.af_ hB (C:=vx++vy) (List.prefix_append _ _) (m:=c*size) (by
   simp only[List.size_toArray,List.length_append,lx,ly,EC]
   rw[<- Nat.add_mul,<- Nat.add_mul];exact Nat.mul_le_mul_right _ (by omega))
  rw[hlen]at g1 g2
  have f_:cy (Z.set b (vx++vy)) (.list size (.pU b c) (rows++new)) (.slice (some ⟨b,0,none⟩) (n+m) c):=by
   have hr:=su (Z:=Z.set b (vx++vy)) (sz:=size) (fl:=.pU b c) (rows:=rows++new) (vs:=vx++vy) (b:=b) (o:=0) (c:=c) (C:=vx++vy) eT (by rw[List.flatten_append];exact(rx.mono g2.le).append (ry.mono g2.le)) (Fz.aq _ _ _) (λk _=>by rw[Nat.zero_add]) (by rw[List.length_append,RF,OE];exact hc) ⟨rfl,rfl⟩
   rw[List.length_append,RF,OE]at hr
   exact hr
  cases fl with
  |sh=>exact h.elim
  |nr=>exact hK _ _ _ _ _ g2 g1 (hw.born hB) hB.below.size (λ_=>hB.below) f_ (h b c g3 (by rw[RF,OE];exact hc))
  |nil=>exact hK _ _ _ _ _ g2 g1 (hw.born hB) hB.below.size (λ_=>hB.below) f_ (h b c g3 (by rw[RF,OE];exact hc))
  |pU b0 c0=>
   cases q with
   |true=>exact h.elim
   |false=>
    obtain⟨_,h⟩:=h
    have eZ:((μ.set b0 none).set b (some (Ob.pU ((rows.length+new.length)*size) (c*size)))).sub (μ.set b (some (Ob.pU ((rows.length+new.length)*size) (c*size)))):=by
     intro x ob hx
     by_cases e:x=b
     ·subst e;rw[Mem.aq]at hx |-;exact hx
     ·rw[Mem.aC _ _ e]at hx |-
      by_cases e':x=b0
      ·subst e';rw[Mem.aq]at hx;cases hx
      ·rw[Mem.aC _ _ e']at hx;exact hx
    exact hK _ _ _ _ _ (g2.sub eZ) (g1.sub eZ) (hw.born hB) hB.below.size (λ_=>hB.below) f_ (h b c (.inr g3) (by rw[RF,OE];exact hc))
theorem Nx{P:Program}{e:TypeId}{size bytes:Nat}{zero:List Value}{y:PV}{xa yb:Option Addr}{n cap m R_:Nat}{KR:Option Addr->Nat->Nat->Mem->Prop}{KV:Value->UW->Prop}(hg:Good Z u μ)(hw:Wf u)
  (ht:(P.info? e).map (λi=>(i.size,i.bytes,i.zero.map λz=>z.cells.toList))=some (size,bytes,some zero)) (Gn:zero.length=size) (Qy:size≠0)
  (hy:cy Z y (.slice yb m R_)) (h:lZ size bytes e xa n cap y μ KR)
  (hK:∀(μ':Mem) (a':Option Addr) (n' c':Nat) (u':UW),Ext Z μ u.heap.size Z μ'->Good Z u' μ'->Wf u'->u.heap.size<=u'.heap.size->KR a' n' c' μ'->KV (.slice a' n' c') u'):
  Rn P e xa n cap yb m u λa n' c' u'=>KV (.slice a n' c') u':=by
 unfold lZ JR at h
 obtain⟨vy,new,ll,zy,ny,Ya,tN,hnc,h,Kc⟩:∃(vy:List Value) (new:List PV),dq Z new vy/\(m=0->vy=[])/\(m≠0->cK yb λb o=>rd u.heap b o (m*size)=some vy)/\(n+m)*bytes<=140737488355328/\n+m<4611686018427387904/\n<=cap/\((m=0/\(n≠0->∃b o ET,xa=some ⟨b,o,none⟩/\aB μ b o (n*size)=some ET)/\KR xa n cap μ)\/(m≠0/\br new=true/\
  (n+m<=cap->∃b o T cs,xa=some ⟨b,o,none⟩/\μ b=some (.cells T cs)/\o+cap*size<=cs.length/\KR xa (n+m) cap (μ.set b (some (.cells T (dN cs (o+n*size) new)))))/\
  (cap<n+m->∃ET,((n=0/\ET=[])\/∃b o,xa=some ⟨b,o,none⟩/\aB μ b o (n*size)=some ET)/\∀b' c',μ b'=none->n+m<=c'->KR (some ⟨b',0,none⟩) (n+m) c' (μ.set b' (some (.cells e (ET++new++List.replicate ((c'-(n+m))*size) .bd)))))))/\(m≠0->vy.length=m*size):=by
  split at h
  ·rename_i sz fl rows
   obtain⟨gD,h⟩:=av h
   have ML:=hy.size gD
   obtain⟨_,_,_,ey,OE,_⟩:=ML.ofList
   cases ey
   rw[OE]at h
   obtain⟨vy,ry,ly,zy,ny⟩:=vM hg ML (λ_=>Qy)
   exact⟨vy,_,ry.m,zy,λhm=>by obtain⟨b,o,C,rfl,_,hr,_⟩:=ny hm;exact hr,h.1,h.2.1,h.2.2.1,h.2.2.2,λ_=>ly⟩
  ·rename_i b o m' c'
   have ev:=hy.ofRaw.1
   simp only[Value.slice.injEq]at ev
   obtain⟨rfl,rfl,rfl⟩:=ev
   obtain⟨cs,mR,h⟩:=h
   obtain⟨vs,hv,hm⟩:=xP hg mR
   have Kc:=SK hv
   refine⟨vs,cs,hm,λh0=>?_,λ_=>hv,h.1,h.2.1,h.2.2.1,h.2.2.2,λ_=>Kc⟩
   rw[h0]at Kc
   exact List.eq_nil_of_length_eq_zero (by simpa using Kc)
  ·exact h.elim
 rcases h with⟨hm,hold,hk⟩|⟨hm,Gt,gG,gM⟩
 ·by_cases hn:n=0
  ·refine⟨size,bytes,zero,[],vy,ht,zy,ny,λ_=>rfl,λh=>absurd hn h,hnc,Ya,tN,Gn,λv hv=>?_,λ_=>.inl ⟨hm,hK μ xa n cap u hg.ext hg hw (Nat.le_refl _) hk⟩,λcz=>by omega⟩
   rw[zy hm]at hv;cases hv
  ·obtain⟨b,o,ET,rfl,fB⟩:=hold hn
   obtain⟨vs,hv,_⟩:=xP hg fB
   refine⟨size,bytes,zero,vs,vy,ht,zy,ny,λh=>absurd h hn,λ_=>hv,hnc,Ya,tN,Gn,λv hv=>?_,λ_=>.inl ⟨hm,hK μ _ n cap u hg.ext hg hw (Nat.le_refl _) hk⟩,λcz=>by omega⟩
   rw[zy hm]at hv;cases hv
 ·have hc:=ll.c Gt
  have Kc:=Kc hm
  have Wj:new.length=m*size:=by rw[<- hc.1,Kc]
  by_cases yl:n+m<=cap
  ·obtain⟨b,o,T,cs,rfl,hmb,gD,hk⟩:=gG yl
   obtain⟨hp,_,A,hA,hcA⟩:=hg.mem b _ hmb
   have Ye:A.size=cs.length:=by have:=hcA.1;simpa using this
   have hle:n*size+m*size<=cap*size:=by rw[<- Nat.add_mul];exact Nat.mul_le_mul_right _ yl
   refine⟨size,bytes,zero,if n=0 then[]else(A.toList.drop o).take (n*size),vy,ht,zy,ny,λh=>by simp[h],λh=>?_,hnc,Ya,tN,Gn,λv hv=>(hc.zt v hv).2,λ_=>.inr ⟨hm,?_⟩,λcz=>by omega⟩
   ·rw[if_neg h];exact CK hA (by omega)
   ·exact hg.store hmb (by rw[Wj];omega) ll λw' hs g1 g2=>hK _ _ _ _ _ g2 g1 (hw.LA hs) hs.size hk
  ·obtain⟨ET,hold,hk⟩:=gM (by omega)
   have fin:∀vs:List Value,dq Z ET vs->vs.length=n*size->(n=0->vs=[])->(n≠0->cK xa λb o=>rd u.heap b o (n*size)=some vs)->Rn P e xa n cap yb m u λa n' c' u'=>KV (.slice a n' c') u':=by
    intro vs HL amV h0 h1
    refine⟨size,bytes,zero,vs,vy,ht,zy,ny,h0,h1,hnc,Ya,tN,Gn,λv hv=>(hc.zt v hv).2,λh=>absurd h yl,λ_ c b rest w' OP EC hB=>?_⟩
    have kQ:dq Z (List.replicate ((c-(n+m))*size) .bd) rest:=⟨by simp[EC],λi p v hp _=>by
     rw[List.getElem?_replicate]at hp
     split at hp
     ·cases hp;exact .bd _
     ·cases hp⟩
    obtain⟨g1,g2,g3⟩:=hg.born hB (cs:=ET++new++List.replicate ((c-(n+m))*size) .bd) ((HL.append ll).append kQ)
    exact hK _ _ _ _ _ g2 g1 (hw.born hB) hB.below.size (hk b c g3 OP)
   rcases hold with⟨hn,rfl⟩|⟨b,o,rfl,fB⟩
   ·exact fin [] (dq.nil Z) (by simp[hn]) (λ_=>rfl) (λh=>absurd hn h)
   ·obtain⟨vs,hv,uY⟩:=xP hg fB
    have hl:=SK hv
    exact fin vs uY hl (λh0=>List.eq_nil_of_length_eq_zero (by rw[hl,h0];simp)) (λ_=>hv)
theorem Rq{P:Program}{e:TypeId}{x y:PV}{xa yb:Option Addr}{n cap m R_:Nat}{KP:Kq}{KV:Value->UW->Prop}(hg:Good Z u μ)(hw:Wf u)(hx:cy Z x (.slice xa n cap))(hy:cy Z y (.slice yb m R_))(h:Po P q e x y μ KP)(hK:Pv q Z μ u KP KV):
  Rn P e xa n cap yb m u λa n' c' u'=>KV (.slice a n' c') u':=by
 unfold Po at h
 split at h
 ·rename_i size bytes zl hti
  obtain⟨hc,h⟩:=av h
  simp only[Bool.and_eq_true,beq_iff,Bool.not_eq_true']at hc
  obtain⟨zero,ht,Gn⟩:=XC hti
  have Qy:size≠0:=λe=>by
   have:=hc.2;rw[e]at this;cases this
  split at h
  ·rename_i sz fl rows WM lT new
   obtain⟨mR,h⟩:=av h
   simp only[Bool.and_eq_true]at mR
   exact Ny hg hw ht (Gn.trans hc.1) Qy (hx.size mR.1) (hy.size mR.2) h λZ' μ' lT v u' e1 e2 e3 e4 e5 e6 e7=>hK Z' μ' _ v u' e1 e2 e3 e4 e5 e6 e7
  ·rename_i a n' c'
   have ev:=hx.ofRaw.1
   simp only[Value.slice.injEq]at ev
   obtain⟨rfl,rfl,rfl⟩:=ev
   cases q with
   |true=>exact h.elim
   |false=>
    simp only[cond_false]at h
    exact Nx hg hw ht (Gn.trans hc.1) Qy hy h λμ' a' n' c' u' e1 e2 e3 e4 e5=>hK Z μ' _ _ u' e1 e2 e3 e4 (λh=>by cases h) (.raw _ rfl rfl) e5
  ·exact h.elim
 ·exact h.elim
theorem FD{r:Bool}{x:PV}{v:Value}(h:cy Z x v):cy Z (Cg r x) v:=by
 unfold Cg
 cases r with
 |false=>exact h
 |true=>
  simp only[cond_true]
  split
  ·obtain⟨a,n,c,rfl,_,_,_,hf⟩:=h.ofList
   obtain⟨rfl,rfl,rfl⟩:=hf
   exact .raw _ rfl rfl
  ·exact h
theorem FU{mL:List Nat}{k:Nat}:∀{cs:List PV} {vs:List Value} (i:Nat),bF Z cs vs->bF Z (SL mL k i cs) vs
 |[],vs,i,h=>h
 |c::cs,vs,i,h=>by
  obtain⟨v,rC,rfl,hc,hv,hs⟩:=h.inv
  refine bF.cons ?_ (FD hv) (FU (i+1) hs)
  unfold Cg
  cases dw mL k||dw mL (2000000+1000*k+i)with
  |false=>exact hc
  |true=>
   simp only[cond_true]
   split
   ·rfl
   ·exact hc
theorem sv{mL:List Nat}{k:Option Nat}{cs:List PV}{vs:List Value}(h:bF Z cs vs):bF Z (PZ mL k cs) vs:=by
 cases k with
 |none=>exact h
 |some k=>exact FU 0 h
theorem QT{P:Program}{r:Bool}{t:TypeId}{F:Kq}{G:Value->Prop}{pp:PV}{v:Value}{μ':Mem}{Z':Fz}(hp:cy Z' pp v)(h:QV P r t λp'=>pp=p'/\F p' μ')(hG:F pp μ'->G v):RX P t λv'=>v=v'/\G v':=by
 obtain⟨p',⟨rfl,hF⟩,hex⟩:=QU (Z:=Z') h
 exact hex hp ⟨rfl,hG hF⟩
theorem NS{q:Bool}{KP:eI->Mem->Prop}{K:St->UW->Prop}(hr:dW Z p s)(hK:xo q Z μ u KP K)(r:Bool)(t:TypeId):Pv q Z μ u (λv μ'=>QV E.P r t λv'=>v=v'/\KP (dx o p v') μ') (λv u'=>RX E.er.P t λv'=>v=v'/\K (fin o s v') u'):=
 λZ' μ' pp v u' e1 e2 e3 e4 e5 e6 e7=>QT (F:=λp' μ'=>KP (dx o p p') μ') (G:=λv'=>K (fin o s v') u') e6 e7 λhk=>hK Z' _ μ' _ u' ((hr.mono e1.le).fin o e6) e2 e3 e1 e4 e5 hk
theorem n_(hr:dW Z p s)(hg:Good Z u μ)(hw:Wf u)(hK:xo q Z μ u KP K)(h:V1 E q fz o p μ KP):W1 E.er fz o s u K:=by
 have hK0:∀p' s',dW Z p' s'->KP p' μ->K s' u:=λp' s' h1 h2=>hK Z p' μ s' u h1 hg hw hg.ext (Nat.le_refl _) (λ_=>Below.refl _ _) h2
 by_cases iB:bS o=true
 ·cases hl:qW o with
  |false=>exact Iw hr iB hl hK0 h
  |true=>exact vL hr hg (Fz.le.refl Z) (.inr hg) hl hK0 h
 ·unfold bS at iB
  unfold V1 at h
  unfold W1
  simp only at h |-
  cases OJ:o.op<;>simp only[OJ]at h iB |- <;>first|(exact absurd trivial iB)|(exact h.elim)|skip
  case alloc t=>
   cases hz:(E.P.info? t).bind (·.zero)with
   |none=>rw[hz]at h;exact h.elim
   |some z=>
    rw[hz]at h
    have Qv:(E.er.P.info? t).bind (·.zero)=some z:=hz
    rw[Qv]
    obtain⟨aO,h⟩:=av h
    have f_:cy Z (pM E.P t z) z:=(BT Z z).im
    exact CZ hr hg hw hK (sv (f_.cells aO)) h
  case box t x=>
   obtain⟨aO,h⟩:=av h
   have hx:=hr.ev x
   rw[hx.plain aO]
   simp only[cond_true]
   have f_:=hx.im (P:=E.P) (t:=t)
   exact CZ hr hg hw hK (sv (f_.cells (by rw[qP];exact aO))) h
  case buildSlice t len ps=>
   obtain⟨hc,h⟩:=av h
   simp only[Bool.and_eq_true]at hc
   have ow:(ps.toList.all λp=>plain (ev s.σ p.2))=true:=by
    rw[List.all_eq_true]
    exact λx hx=>(hr.ev x.2).plain (List.all_eq_true.1 hc.1 x hx)
   rw[ow,hc.2]
   simp only[Bool.and_self,cond_true]
   cases he:yw E.P t with
   |none=>rw[he]at h;exact h.elim
   |some e=>
    rw[he]at h
    have OO:yw E.er.P t=some e:=he
    rw[OO]
    simp only at h |-
    split at h
    ·rename_i rows hb
     obtain⟨w,RG,f_,hl,EC⟩:=DZ (Z:=Z) (vs:=ps.toList.map λp=>(p.1,ev s.σ p.2)) (by simp) (λi x y a b=>by
      rw[List.getElem?_map]at a b
      cases hi:ps.toList[i]? with
      |none=>rw[hi]at a;cases a
      |some z=>
       rw[hi]at a b
       simp only[Option.map_some,Option.some.injEq]at a b
       subst a;subst b
       exact⟨rfl,by rw[qP];exact List.all_eq_true.1 hc.1 z (List.mem_of_getElem? hi),(hr.ev z.2).im⟩) hb
     have aik:rj (E.er.P.cellsOf e) 0 (ps.toList.map λp=>(p.1,ev s.σ p.2))=some w:=RG
     rw[aik]
     obtain⟨hc2,h⟩:=av h
     have ajh:(Nat.ble w.length 65536&&((E.er.P.info? e).bind (·.zero)).isSome&& !Nat.beq (E.er.P.cellsOf e) 0)=true:=by rw[f_.1];exact hc2
     simp only[ajh,cond_true]
     intro b w' hB
     cases hwr:adP E o with
     |true=>
      rw[hwr]at h
      obtain⟨g1,g2,g3⟩:=hg.born hB (cs:=PZ E.mL o.dst rows.flatten) (sv f_).m
      exact hK Z _ _ _ _ (hr.fin o (.raw _ rfl rfl)) g1 (hw.born hB) g2 hB.below.size (λ_=>hB.below) (h b g3)
     |false=>
      rw[hwr]at h
      obtain⟨g1,g2⟩:=hg.aal hB
      refine hK _ _ μ _ _ ((hr.mono g2.le).fin o ?_) g1 (hw.born hB) g2 hB.below.size (λ_=>hB.below) h
      have hlen:rows.length=len:=by
       have:=beq_iff.1 hc.2;rw[hl,<- this];simp
      have:=su (Z:=Z.set b w.toArray.toList) (sz:=E.P.cellsOf e) (fl:=.nr) (rows:=rows) (vs:=w) (b:=b) (o:=0) (c:=rows.length) (C:=w) EC (f_.mono g2.le) (Fz.aq _ _ _) (λk _=>by rw[Nat.zero_add]) (Nat.le_refl _) rfl
      rw[hlen]at this
      exact this
    ·exact h.elim
  case store t x y=>
   obtain⟨hc,h⟩:=av h
   simp only[Bool.and_eq_true,beq_iff]at hc
   have hy:=hr.ev y
   have hx:=hr.ev x
   have f_:=(hy.im (P:=E.P) (t:=t)).cells (by rw[qP];exact hc.1.1)
   have gD:(ev s.σ y).cells.size=(im E.P t (u_ p.σ y)).cells.length:=by have:=f_.1;simpa using this
   have OP:(plain (ev s.σ y)&&Nat.beq (ev s.σ y).cells.size (E.er.P.cellsOf t)&&fT (ev s.σ y).cells.toList&&(E.er.P.info? t).isSome)=true:=by
    have h2:(E.er.P.info? t).isSome=true:=hc.2
    rw[hy.plain hc.1.1,gD,hc.1.2,lP f_,h2]
    have:Nat.beq (E.P.cellsOf t) (E.er.P.cellsOf t)=true:=Nat.beq_refl _
    rw[this];rfl
   rw[OP]
   simp only[cond_true]
   split at h
   ·rename_i k off he
    rw[he]at hx;rw[hx.AL]
    simp only
    rw[<- hr.D]
    split at h
    ·rename_i m hm
     rw[hm]
     simp only
     obtain⟨hb,h⟩:=av h
     rw[gD,hb]
     simp only[cond_true]
     exact hK0 {p with σ:=Ms (GS p.σ k off (im E.P t (u_ p.σ y)).cells) o.dst (.aD [])} _ ⟨rfl,gy.put (gy.tB hr.slot f_.m) (bf.xC (vs:=[]) (bf.nil Z))⟩ h
    ·exact h.elim
   ·cases q with
    |true=>exact h.elim
    |false=>
     simp only[cond_false]at h
     unfold aF at h
     split at h
     ·rename_i b off he
      rw[he]at hx
      rw[hx.ofRaw.1]
      show eY (.pointer (some ⟨b,off,none⟩)) _
      unfold eY
      simp only
      obtain⟨T,cs,hm,hl,h⟩:=h
      exact hg.store hm hl (sv f_).m λw' hs g1 g2=>hK Z _ _ _ _ (hr.fin o (bf.xC (vs:=[]) (bf.nil Z))) g1 (hw.LA hs) g2 hs.size (λh=>by cases h) h
     ·exact h.elim
  case makeSlice t x y=>
   have hx:=hr.ev x
   have hy:=hr.ev y
   split at h
   ·rename_i e k i k' j hu he hj
    have iu:E.er.P.underlying t=some (.slice e):=hu
    rw[he]at hx;rw[hj]at hy
    rw[iu,hx.ofRaw.1,hy.ofRaw.1]
    simp only
    cases hi:E.P.info? e with
    |none=>rw[hi]at h;exact h.elim
    |some inf=>
     rw[hi]at h
     have vX:E.er.P.info? e=some inf:=hi
     rw[vX]
     simp only[Option.map_some]at h |-
     cases hz:inf.zero with
     |none=>rw[hz]at h;exact h.elim
     |some z=>
      rw[hz]at h
      simp only[Option.map_some]at h |-
      obtain⟨hc,g1,g2,g3,g4,h⟩:=av h
      simp only[Bool.and_eq_true,beq_iff]at hc
      have f_:cy Z (pM E.P e z) z:=(BT Z z).im
      have hrc:bF Z (pM E.P e z).cells z.cells.toList:=by
       cases hk:(pM E.P e z).ok with
       |true=>exact f_.cells hk
       |false=>
        exfalso
        have h3:=hc.2
        cases hzp:pM E.P e z<;>rw[hzp]at hk h3<;>simp[PV.ok,PV.cell,PV.cells,br]at hk h3
      have rI:(Nat.beq z.cells.toList.length inf.size&& !Nat.beq inf.size 0)=true:=by
       rw[hrc.1,hc.1.1,hc.1.2];simp
      rw[rI]
      simp only[cond_true]
      refine⟨g1,g2,g3,g4,λb w' hB=>?_⟩
      have Wi:∀n:Nat,dq Z (List.replicate n (pM E.P e z).cells).flatten (List.replicate n z.cells.toList).flatten:=by
       intro n
       induction n with
       |zero=>exact dq.nil Z
       |succ n ih=>rw[List.replicate_succ,List.replicate_succ,List.flatten_cons,List.flatten_cons];exact hrc.m.append ih
      obtain⟨d1,d2,d3⟩:=hg.born hB (cs:=(List.replicate j.toNat (pM E.P e z).cells).flatten) (Wi _)
      exact hK Z _ _ _ _ (hr.fin o (.raw _ rfl rfl)) d1 (hw.born hB) d2 hB.below.size (λ_=>hB.below) (h b d3)
   ·exact h.elim
  case call c=>
   obtain⟨cal,args,ats⟩:=c
   cases cal with
   |builtin b=>
    simp only at h iB |-
    unfold V1b at h
    unfold W1b
    generalize args.toList=al at h |-
    generalize ats.toList=tl at h |-
    cases b<;>first|(exact absurd rfl iB)|(exact h.elim)|skip
    match al,tl,h with
    |[x,y],[t,t'],h=>
     simp only at h |-
     have hx:=FD (r:=JE E o) (hr.ev x)
     have hy:=hr.ev y
     split at h
     ·rename_i e e' hu IW
      have iu:E.er.P.underlying t=some (.slice e):=hu
      have aiq:E.er.P.underlying t'=some (.slice e'):=IW
      rw[iu,aiq]
      have sl:∀{pp:PV} {v:Value},cy Z pp v->(∃sz fl rows,pp=.list sz fl rows)\/(∃a n c,pp=.raw (.slice a n c))->∃a n c,v=.slice a n c:=by
       rintro pp v hv (⟨sz,fl,rows,rfl⟩|⟨a,n,c,rfl⟩)
       ·obtain⟨a,n,c,rfl,_⟩:=hv.ofList;exact⟨a,n,c,rfl⟩
       ·exact⟨a,n,c,hv.ofRaw.1⟩
      have Wh:((∃sz fl rows,Cg (JE E o) (u_ p.σ x)=.list sz fl rows)\/(∃a n c,Cg (JE E o) (u_ p.σ x)=.raw (.slice a n c)))/\((∃sz fl rows,u_ p.σ y=.list sz fl rows)\/(∃a n c,u_ p.σ y=.raw (.slice a n c))):=by
       unfold Po at h
       split at h
       ·obtain⟨_,h⟩:=av h
        split at h
        ·rename_i e1 e2;exact⟨.inl ⟨_,_,_,e1⟩,.inl ⟨_,_,_,e2⟩⟩
        ·rename_i e1
         refine⟨.inr ⟨_,_,_,e1⟩,?_⟩
         cases q with
         |true=>exact h.elim
         |false=>
          simp only[cond_false]at h
          unfold lZ JR at h
          split at h
          ·rename_i e2;exact .inl ⟨_,_,_,e2⟩
          ·rename_i e2;exact .inr ⟨_,_,_,e2⟩
          ·exact h.elim
        ·exact h.elim
       ·exact h.elim
      obtain⟨xa,n,cap,hxv⟩:=sl hx Wh.1
      obtain⟨yb,m,yc,hyv⟩:=sl hy Wh.2
      rw[hxv,hyv]
      rw[hxv]at hx;rw[hyv]at hy
      simp only
      exact Rq (KV:=λv u'=>K (fin o s v) u') hg hw hx hy h λZ' μ' pp v u' e1 e2 e3 e4 e5 e6 e7=>hK Z' _ μ' _ u' ((hr.mono e1.le).fin o e6) e2 e3 e1 e4 e5 e7
     ·exact h.elim
    |[],_,h=>exact h.elim
    |[_],_,h=>exact h.elim
    |[_,_],[],h=>exact h.elim
    |[_,_],[_],h=>exact h.elim
    |[_,_],_::_::_::_,h=>exact h.elim
    |_::_::_::_,_,h=>exact h.elim
   |value f=>
    simp only at h |-
    obtain⟨hc,h⟩:=av h
    rw[mT hr hc]
    simp only[cond_true]
    exact EA.v hg hw (hr.ev f) (Lh hr hc).vb h (NS (E:=E) hr hK (JE E o) o.type)
   |invoke x name=>
    simp only at h |-
    obtain⟨hc,h⟩:=av h
    rw[mT hr hc]
    simp only[cond_true]
    have hx:=hr.ev x
    split at h
    ·rename_i t pp he
     rw[he]at hx
     cases hvx:ev s.σ x with
     |iface t' v=>
      rw[hvx]at hx
      cases hx with
      |iface _ _ _ hk hv=>
       simp only
       split at h
       ·rename_i g r' hm
        obtain⟨iP,h⟩:=h
        have afx:pv E.er.P (method (E.er.P.types.size+Made.depth) t v name)=some (g,v):=iP v
        rw[afx]
        simp only
        have:=EA.v (fv:=.func (.func g) #[] #[]) (vs:=v::args.toList.map (ev s.σ)) hg hw (bf.GX (fv:=[]) (cv:=[]) (bf.nil Z) (bf.nil Z)) (bf.cons (by rw[LO];exact hk) hv.Bp (Lh hr hc).vb) h (NS (E:=E) hr hK (JE E o) o.type)
        have h2:(bif eG E.P g then qy E.P g ((#[]:Array Value).toList++(v::args.toList.map (ev s.σ))++(#[]:Array Value).toList).toArray u (λv u'=>RX E.er.P o.type λv'=>v=v'/\K (fin o s v') u')else False):=this
        obtain⟨iV,h3⟩:=av h2
        have aje:eG E.er.P g=true:=iV
        rw[aje]
        simp only[cond_true]
        show qy E.P g _ u _
        simpa using h3
       ·exact h.elim
     |_=>rw[hvx]at hx;cases hx
    ·exact h.elim
end
section
variable {E:mh} {fz:List Nat} {ops:Array Oper}
theorem xo.step{Z Z1:Fz}{μ μ1:Mem}{u u1:UW}{KP:eI->Mem->Prop}{K:St->UW->Prop}(h:xo false Z μ u KP K)(e:Ext Z μ u.heap.size Z1 μ1)(hN:u.heap.size<=u1.heap.size):xo false Z1 μ1 u1 KP K:=
 λZ' p' μ' s' u' r g w e' n _ k=>h Z' p' μ' s' u' r g w (e.trans e' hN) (Nat.le_trans hN n) (λh=>by cases h) k
theorem kW(Z:Fz):cy Z (.aD []) undef:=bf.xC (vs:=[]) (bf.nil Z)
theorem VW{E:Env}{fz:List Nat}{o:Oper}{s:St}{u:UW}{K:St->UW->Prop}(h:W1 E fz o s u K):YQ E fz o s u K:=by
 unfold YQ
 split
 ·rename_i t x y t' ho
  cases hb:yD (ev s.σ x) (ev s.σ y)with
  |false=>exact h
  |true=>
   exfalso
   unfold W1 at h
   simp only[ho]at h
   unfold yD at hb
   split at hb
   ·rename_i a1 a2 e1 e2
    rw[e1,e2]at h
    exact h
   ·cases hb
 ·exact h
theorem Gj{Z:Fz}{u:UW}{μ:Mem}(hg:Good Z u μ){b:Nat}(h:Tp μ b):∃(c:Array Value) (T:TypeId),u.heap[b]?=some (.cells c T (0,0))/\c.size≠0:=by
 obtain⟨T,cs,hm,aT⟩:=h
 obtain⟨_,_,A,hA,hc⟩:=hg.mem b _ hm
 refine⟨A,T,hA,λe=>aT ?_⟩
 have:A.size=cs.length:=by have:=hc.1;simpa using this
 exact List.eq_nil_of_length_eq_zero (by omega)
theorem Rx{Z:Fz}{o:Oper}{p:eI}{s:St}{μ:Mem}{u:UW}{KP:eI->Mem->Prop}{K:St->UW->Prop}(hr:dW Z p s)(hg:Good Z u μ)(hw:Wf u)(hK:xo false Z μ u KP K)(h:V1x E fz o p μ KP):YQ E.er fz o s u K:=by
 unfold V1x at h
 split at h
 ·rename_i t x y t' ho
  cases hb:(OC (u_ p.σ x)&&OC (u_ p.σ (.tmp y)))with
  |true=>
   rw[hb]at h
   simp only[cond_true]at h
   obtain⟨gD,h⟩:=av h
   unfold Mu at h
   split at h
   ·rename_i b o1 b' o2 ex ey
    obtain⟨l1,l2,h⟩:=h
    have hx:=hr.ev x;have hy:=hr.ev (.tmp y)
    rw[ex]at hx;rw[ey]at hy
    have ex':=hx.ofRaw.1;have ey':=hy.ofRaw.1
    unfold YQ
    simp only[ho]
    rw[ex',ey']
    simp only[yD,cond_true]
    unfold Mw
    simp only
    have Qx:∃e,E.P.underlying t=some (.pointer e)/\sized E.P e=true:=by
     cases hu:E.P.underlying t with
     |none=>rw[hu]at gD;cases gD
     |some d=>
      rw[hu]at gD
      cases d<;>first|(cases gD;done)|exact⟨_,rfl,gD⟩
    obtain⟨e,hu,hi⟩:=Qx
    have iu:E.er.P.underlying t=some (.pointer e):=hu
    have vX:sized E.er.P e=true:=hi
    rw[iu]
    simp only
    rw[vX]
    exact⟨Gj hg l1,Gj hg l2,hK Z _ μ _ u (hr.fin o (.raw _ rfl rfl)) hg hw hg.ext (Nat.le_refl _) (λh=>by cases h) h⟩
   ·exact h.elim
  |false=>rw[hb]at h;exact VW (n_ hr hg hw hK h)
 ·exact VW (n_ hr hg hw hK h)
theorem yE{QP:eI->Mem->Prop}{Q:St->UW->Prop}:∀(l:List Oper) (p:eI) (s:St) (μ:Mem) (u:UW) (Z:Fz),dW Z p s->Good Z u μ->Wf u->xo false Z μ u QP Q->Vl E fz ops QP l p μ->Wl E.er fz ops Q l s u
 |[],p,s,μ,u,Z,hr,hg,hw,hC,h=>hC Z p μ s u hr hg hw hg.ext (Nat.le_refl _) (λh=>by cases h) h
 |o::l,p,s,μ,u,Z,hr,hg,hw,hC,h=>by
  have akn:∀{p1:eI} {s1:St},dW Z p1 s1->V1x E fz o p1 μ (λp' μ'=>Vl E fz ops QP l p' μ')->YQ E.er fz o s1 u (λs' u'=>Wl E.er fz ops Q l s' u'):=λOH h1=>
   Rx OH hg hw (λZ' p' μ' s' u' r g w e n _ k=>yE l p' s' μ' u' Z' r g w (hC.step e n) k) h1
  have act:∀{p1:eI} {s1:St},dW Z p1 s1->V1 E false fz o p1 μ (λp' μ'=>Vl E fz ops QP l p' μ')->W1 E.er fz o s1 u (λs' u'=>Wl E.er fz ops Q l s' u'):=λOH h1=>
   n_ OH hg hw (λZ' p' μ' s' u' r g w e n _ k=>yE l p' s' μ' u' Z' r g w (hC.step e n) k) h1
  have skip:∀{p1:eI} {s1:St},dW Z p1 s1->Vl E fz ops QP l (dx o p1 (.aD [])) μ->Wl E.er fz ops Q l (fin o s1 undef) u:=λOH h1=>
   yE l _ _ μ u Z (OH.fin o (kW Z)) hg hw hC h1
  simp only[Vl]at h
  simp only[Wl]
  cases hgd:o.guard with
  |none=>rw[hgd]at h;exact akn hr h
  |some jb=>
   obtain⟨j,b⟩:=jb
   rw[hgd]at h
   simp only at h |-
   cases zF:rK ops j with
   |none=>rw[zF]at h;exact h.elim
   |some g=>
    rw[zF]at h
    simp only at h |-
    have hs:=hr.slot g
    split at h
    ·rename_i c he
     rw[he]at hs
     rw[hs.ofRaw.1]
     simp only
     have hT:dW Z {p with σ:=aQ p.σ g (pB true)} {s with σ:=kB s.σ g (.bool true)}:=⟨hr.D,gy.kB hr.slot (.raw _ rfl rfl)⟩
     have hF:dW Z {p with σ:=aQ p.σ g (pB false)} {s with σ:=kB s.σ g (.bool false)}:=⟨hr.D,gy.kB hr.slot (.raw _ rfl rfl)⟩
     cases c<;>cases b
     ·exact act hF h
     ·exact skip hF h
     ·exact skip hT h
     ·exact act hT h
    ·rename_i vs he
     rw[he]at hs
     obtain⟨ws,hv,_⟩:=hs.CW
     rw[hv]
     exact skip hr h
    ·exact h.elim
def Wt(ops:Array Oper):kH->Prop
 | .nil=>True
 | .tk i p=>(∀o,ops[i]?=some o->bS o=true)/\Wt ops p
 | .ef i p=>cu ops i p=true/\Wt ops p
 | .UH i p j q=>(cu ops i p=true/\Wt ops p)/\(cu ops j q=true/\Wt ops q)
 | .UG i p j q k r=>(cu ops i p=true/\Wt ops p)/\(cu ops j q=true/\Wt ops q)/\(cu ops k r=true/\Wt ops r)
theorem sT{ah:Array Bool}:∀{l:List Nat} {i:Nat},ki ops ah l=some i->∀o,ops[i]?=some o->bS o=true
 |[],i,h=>by simp[ki]at h
 |j::l,i,h=>by
  simp only[ki]at h
  intro o ho
  cases ho2:ops[j]? with
  |none=>rw[ho2]at h;exact sT h o ho
  |some oj=>
   rw[ho2]at h
   simp only at h
   cases hc:(bS oj&&Region.free .any ops ah j)with
   |true=>
    rw[hc]at h
    simp only[cond_true,Option.some.injEq]at h
    subst h
    rw[ho]at ho2;cases ho2
    simp only[Bool.and_eq_true]at hc
    exact hc.1
   |false=>rw[hc]at h;exact sT h o ho
theorem lJ:∀{f:Nat} {ah:Array Bool} {p:kH},fR ops f ah=some p->Wt ops p
 |0,ah,p,h=>by
  simp only[fR]at h
  split at h
  ·cases h;trivial
  ·cases h
 |f+1,ah,p,h=>by
  simp only[fR]at h
  split at h
  ·cases h;trivial
  ·split at h
   ·rename_i j hj
    split at h
    ·rename_i p' hp;cases h;exact⟨sT hj,lJ hp⟩
    ·cases h
   ·split at h
    ·split at h
     ·rename_i p' hp
      cases hc:cu ops _ p' with
      |true=>rw[hc]at h;cases h;exact⟨hc,lJ hp⟩
      |false=>rw[hc]at h;cases h
     ·cases h
    ·split at h
     ·rename_i p' q' hp hq
      cases hc:(cu ops _ p'&&cu ops _ q')with
      |true=>
       rw[hc]at h;cases h
       simp only[Bool.and_eq_true]at hc
       exact⟨⟨hc.1,lJ hp⟩,hc.2,lJ hq⟩
      |false=>rw[hc]at h;cases h
     ·cases h
    ·split at h
     ·rename_i p' q' r' hp hq hr
      cases hc:(cu ops _ p'&&cu ops _ q'&&cu ops _ r')with
      |true=>
       rw[hc]at h;cases h
       simp only[Bool.and_eq_true]at hc
       exact⟨⟨hc.1.1,lJ hp⟩,⟨hc.1.2,lJ hq⟩,hc.2,lJ hr⟩
      |false=>rw[hc]at h;cases h
     ·cases h
    ·cases h
theorem oX{Z:Fz}{o:Oper}{p:eI}{s:St}{agj Zd:eI->Prop}{act skip:St->Prop}(hr:dW Z p s)(ha:∀p1 s1,dW Z p1 s1->agj p1->act s1)(hs:∀p1 s1,dW Z p1 s1->Zd p1->skip s1)(h:sR ops o p agj Zd):guarded ops o s act skip:=by
 unfold sR at h
 unfold guarded
 cases hgd:o.guard with
 |none=>rw[hgd]at h;exact ha _ _ hr h
 |some jb=>
  obtain⟨j,b⟩:=jb
  rw[hgd]at h
  simp only at h |-
  cases zF:rK ops j with
  |none=>rw[zF]at h;exact h.elim
  |some g=>
   rw[zF]at h
   simp only at h |-
   have hsl:=hr.slot g
   split at h
   ·rename_i c he
    rw[he]at hsl
    rw[hsl.ofRaw.1]
    simp only
    have hT:dW Z {p with σ:=aQ p.σ g (pB true)} {s with σ:=kB s.σ g (.bool true)}:=⟨hr.D,gy.kB hr.slot (.raw _ rfl rfl)⟩
    have hF:dW Z {p with σ:=aQ p.σ g (pB false)} {s with σ:=kB s.σ g (.bool false)}:=⟨hr.D,gy.kB hr.slot (.raw _ rfl rfl)⟩
    cases c<;>cases b
    ·exact ha _ _ hF h
    ·exact hs _ _ hF h
    ·exact hs _ _ hT h
    ·exact ha _ _ hT h
   ·rename_i vs he
    rw[he]at hsl
    obtain⟨ws,hv,_⟩:=hsl.CW
    rw[hv]
    exact hs _ _ hr h
   ·exact h.elim
theorem acK{q q':Bool}{fz fz':List Nat}{o:Oper}{p:eI}{μ:Mem}{K:eI->Mem->Prop}(hn:sJ o=true)(hp:jt E.gp o=false)(h:V1 E q fz o p μ K):V1 E q' fz' o p μ K:=by
 unfold sJ at hn
 unfold jt at hp
 unfold V1 at h |-
 split at hn
 ·rename_i t ho
  simp only[ho]at h hp |-
  cases hz:(E.P.info? t).bind (·.zero)with
  |none=>rw[hz]at h;exact h.elim
  |some z=>
   rw[hz]at h
   simp only at h |-
   obtain⟨h1,h⟩:=av h
   rw[h1]
   simp only[cond_true]
   unfold Qg at h |-
   cases hd:o.dst with
   |none=>rw[hd]at h;exact h.elim
   |some k=>
    rw[hd]at h hp
    simp only at h hp |-
    rw[hp]at h |-
    exact h
 ·rename_i t x ho
  simp only[ho]at h hp |-
  obtain⟨h1,h⟩:=av h
  rw[h1]
  simp only[cond_true]
  unfold Qg at h |-
  cases hd:o.dst with
  |none=>rw[hd]at h;exact h.elim
  |some k=>
   rw[hd]at h hp
   simp only at h hp |-
   rw[hp]at h |-
   exact h
 ·rename_i t len ps ho
  simp only[ho]at h |-
  exact h
 ·cases hn
theorem JX{Z:Fz}{u0:UW}{o:Oper}{p:eI}{s:St}{μ0 μ:Mem}{u:UW}{fz:List Nat}{KP:eI->Mem->Prop}{K:St->UW->Prop}(hr:dW Z p s)(hg:Good Z u μ)(hw:Wf u)(OL:∀b,μ b≠none->μ0 b≠none\/u0.heap.size<=b)(lM:uq u0 u)
  (hK:∀Z' p' μ' s' u',dW Z' p' s'->Good Z' u' μ'->Wf u'->Ext Z μ u.heap.size Z' μ'->u.heap.size<=u'.heap.size->uq u0 u'->KP p' μ'->K s' u')
  (h:Tr E fz o p μ0 μ KP):W1 E.er fz o s u K:=by
 have base:V1 E true fz o p μ KP->W1 E.er fz o s u K:=λh1=>n_ hr hg hw (λZ' p' μ' s' u' a1 a2 a3 a4 a5 a6 a7=>hK Z' p' μ' s' u' a1 a2 a3 a4 a5 (Aa lM (a6 rfl)) a7) h1
 unfold Tr at h
 split at h
 ·rename_i t x y ho
  split at h
  ·rename_i b off he
   obtain⟨h0,h⟩:=h
   unfold V1 at h
   unfold W1
   simp only[ho]at h |-
   obtain⟨hc,h⟩:=av h
   simp only[Bool.and_eq_true,beq_iff]at hc
   have hy:=hr.ev y
   have hx:=hr.ev x
   have f_:=(hy.im (P:=E.P) (t:=t)).cells (by rw[qP];exact hc.1.1)
   have gD:(ev s.σ y).cells.size=(im E.P t (u_ p.σ y)).cells.length:=by have:=f_.1;simpa using this
   have OP:(plain (ev s.σ y)&&Nat.beq (ev s.σ y).cells.size (E.er.P.cellsOf t)&&fT (ev s.σ y).cells.toList&&(E.er.P.info? t).isSome)=true:=by
    have h2:(E.er.P.info? t).isSome=true:=hc.2
    rw[hy.plain hc.1.1,gD,hc.1.2,lP f_,h2]
    have:Nat.beq (E.P.cellsOf t) (E.er.P.cellsOf t)=true:=Nat.beq_refl _
    rw[this];rfl
   rw[OP]
   simp only[cond_true]
   rw[he]at hx h
   rw[hx.ofRaw.1]
   show eY (.pointer (some ⟨b,off,none⟩)) _
   unfold eY
   simp only
   simp only[cond_false]at h
   unfold aF at h
   simp only at h
   obtain⟨T,cs,hm,hl,h⟩:=h
   have hb:u0.heap.size<=b:=(OL b (by rw[hm];simp)).resolve_left λhn=>hn h0
   exact hg.store hm hl (sv f_).m λw' hs g1 g2=>hK Z _ _ _ _ (hr.fin o (bf.xC (vs:=[]) (bf.nil Z))) g1 (hw.LA hs) g2 hs.size ⟨hs.os.trans lM.os,hs.tape.trans lM.tape,hs.output.trans lM.output,Nat.le_trans lM.size hs.size,λc hc=>(hs.ne c (by omega) (Nat.lt_of_lt_of_le hc lM.size)).trans (lM.block c hc)⟩ h
  ·exact base h
 ·exact base h
theorem iE{Z:Fz}{u0:UW}{μ0:Mem}{i:Nat}{p:eI}{s:St}{μ:Mem}{u:UW}{KP:eI->Mem->Prop}{K:St->UW->Prop}(hr:dW Z p s)(hg:Good Z u μ)(hw:Wf u)(OL:∀b,μ b≠none->μ0 b≠none\/u0.heap.size<=b)(lM:sQ ops i=true->uq u0 u)
  (hK:∀Z' p' μ' s' u',dW Z' p' s'->Good Z' u' μ'->Wf u'->Ext Z μ u.heap.size Z' μ'->u.heap.size<=u'.heap.size->(sQ ops i=true->uq u0 u')->(Hx ops i=true->uq u0 u->uq u0 u')->KP p' μ'->K s' u')
  (h:sq E fz ops μ0 i p μ KP):uN E.er fz ops u0 i s u K:=by
 unfold sq at h
 unfold uN
 cases ho:ops[i]? with
 |none=>rw[ho]at h;exact h.elim
 |some o=>
  rw[ho]at h
  simp only at h |-
  have ng:jt E.er.gp o=jt E.gp o:=rfl
  rw[ng]
  cases hp:jt E.gp o with
  |true=>rw[hp]at h;exact h.elim
  |false=>
   rw[hp]at h
   simp only[cond_false]at h |-
   refine oX hr (λp1 s1 r1 h1=>?_) (λp1 s1 r1 h1=>?_) h
   ·cases hl:sQ ops i with
    |true=>
     rw[hl]at h1
     simp only[cond_true]at h1 |-
     rw[r1.D]at h1
     refine JX r1 hg hw OL (lM hl) (λZ' p' μ' s' u' a1 a2 a3 a4 a5 RJ a7=>?_) h1
     exact⟨RJ,hK Z' p' μ' s' u' a1 a2 a3 a4 a5 (λ_=>RJ) (λ_ _=>RJ) a7⟩
    |false=>
     rw[hl]at h1
     simp only[cond_false]at h1 |-
     cases hn:Hx ops i with
     |true=>
      have hnw:sJ o=true:=by unfold Hx at hn;rw[ho]at hn;exact hn
      exact n_ r1 hg hw (λZ' p' μ' s' u' a1 a2 a3 a4 a5 a6 a7=>hK Z' p' μ' s' u' a1 a2 a3 a4 a5 (λh=>by rw[hl]at h;cases h) (λ_ hs=>Aa hs (a6 rfl)) a7) (acK hnw hp h1)
     |false=>
      exact n_ r1 hg hw (λZ' p' μ' s' u' a1 a2 a3 a4 a5 a6 a7=>hK Z' p' μ' s' u' a1 a2 a3 a4 a5 (λh=>by rw[hl]at h;cases h) (λh=>by rw[hn]at h;cases h) a7) h1
   ·exact hK Z _ μ _ u (r1.fin o (kW Z)) hg hw hg.ext (Nat.le_refl _) lM (λ_ hs=>hs) h1
theorem Ad{i:Nat}{pl pl':kH}{u0 u u':UW}(aO:cu ops i pl=true)(lM:uq u0 u\/cx ops pl'=false)(hr:cx ops pl'=false->cx ops pl=false)(a6:sQ ops i=true->uq u0 u')(a8:Hx ops i=true->uq u0 u->uq u0 u'):uq u0 u'\/cx ops pl=false:=by
 unfold cu at aO
 cases hl:sQ ops i with
 |true=>exact .inl (a6 hl)
 |false=>
  cases hn:Hx ops i with
  |true=>exact lM.imp (a8 hn) hr
  |false=>
   simp only[hl,hn,Bool.false_or,Bool.and_eq_true,Bool.not_eq_true']at aO
   exact .inr aO.2
theorem lS{QP:eI->Mem->Prop}{Q:St->UW->Prop}{Z0:Fz}{u0:UW}{μ0:Mem}(ZL:Good Z0 u0 μ0):∀(pl:kH) (c:Bool) (p:eI) (s:St) (μ:Mem) (u:UW) (Z:Fz),Wt ops pl->dW Z p s->Good Z u μ->Wf u->Z0.le Z->Ext Z0 μ0 u0.heap.size Z μ->u0.heap.size<=u.heap.size->(c=true->Good Z u0 μ0)->(uq u0 u\/cx ops pl=false)->
  xo false Z μ u QP Q->Vd E fz ops μ0 QP c pl p μ->Wd E.er fz ops u0 Q pl s u
 | .nil,c,p,s,μ,u,Z,_,hr,hg,hw,_,_,_,_,_,hC,h=>hC Z p μ s u hr hg hw hg.ext (Nat.le_refl _) (λh=>by cases h) h
 | .tk i pl,c,p,s,μ,u,Z,aO,hr,hg,hw,hz,hx,hN,hc,lM,hC,h=>by
   simp only[Vd,zg]at h
   simp only[Wd,stepT]
   cases ho:ops[i]? with
   |none=>rw[ho]at h;exact h.elim
   |some o=>
    rw[ho]at h
    simp only at h |-
    have next:∀p' s',dW Z p' s'->Vd E fz ops μ0 QP c pl p' μ->Wd E.er fz ops u0 Q pl s' u:=λp' s' r k=>lS ZL pl c p' s' μ u Z aO.2 r hg hw hz hx hN hc lM hC k
    refine oX hr (λp1 s1 r1 h1=>?_) (λp1 s1 r1 h1=>next _ _ (r1.fin o (kW Z)) h1) h
    obtain⟨hcf,h1⟩:=av h1
    cases hl:qW o with
    |false=>exact Iw (KP:=λp' _=>Vd E fz ops μ0 QP c pl p' μ) (K:=λs' _=>Wd E.er fz ops u0 Q pl s' u) r1 (aO.1 o ho) hl next h1
    |true=>
     refine vL (KP:=λp' _=>Vd E fz ops μ0 QP c pl p' μ) (K:=λs' _=>Wd E.er fz ops u0 Q pl s' u) (Zr:=Z0) r1 ZL hz ?_ hl next h1
     cases c with
     |true=>exact .inr (hc rfl)
     |false=>simp only[Bool.false_or,Bool.not_eq_true']at hcf;exact .inl hcf
 | .ef i pl,c,p,s,μ,u,Z,aO,hr,hg,hw,hz,hx,hN,hc,lM,hC,h=>by
   have ok1:=aO.1
   refine iE hr hg hw hx.mn (λhl=>lM.elim id λhn=>?_) (λZ' p' μ' s' u' a1 a2 a3 a4 a5 a6 a8 a7=>lS ZL pl false p' s' μ' u' Z' aO.2 a1 a2 a3 (hz.trans a4.le) (hx.trans a4 hN) (Nat.le_trans hN a5) (λh=>by cases h) ?_ (hC.step a4 a5) a7) h
   ·simp only[cx,hl,Bool.true_or]at hn;cases hn
   ·exact Ad ok1 lM (λhn=>by simp only[cx,Bool.or_eq_false_iff]at hn;exact hn.2) a6 a8
 | .UH i pl j pl2,c,p,s,μ,u,Z,aO,hr,hg,hw,hz,hx,hN,hc,lM,hC,h=>by
   obtain⟨⟨ok1,aaU⟩,ok2,aaT⟩:=aO
   refine⟨iE hr hg hw hx.mn (λhl=>lM.elim id λhn=>?_) (λZ' p' μ' s' u' a1 a2 a3 a4 a5 a6 a8 a7=>lS ZL pl false p' s' μ' u' Z' aaU a1 a2 a3 (hz.trans a4.le) (hx.trans a4 hN) (Nat.le_trans hN a5) (λh=>by cases h) ?_ (hC.step a4 a5) a7) h.1,
    iE hr hg hw hx.mn (λhl=>lM.elim id λhn=>?_) (λZ' p' μ' s' u' a1 a2 a3 a4 a5 a6 a8 a7=>lS ZL pl2 false p' s' μ' u' Z' aaT a1 a2 a3 (hz.trans a4.le) (hx.trans a4 hN) (Nat.le_trans hN a5) (λh=>by cases h) ?_ (hC.step a4 a5) a7) h.2⟩
   ·simp only[cx,hl,Bool.true_or]at hn;cases hn
   ·exact Ad ok1 lM (λhn=>by simp only[cx,Bool.or_eq_false_iff]at hn;exact hn.1.2) a6 a8
   ·simp only[cx,hl,Bool.true_or,Bool.or_true]at hn;cases hn
   ·exact Ad ok2 lM (λhn=>by simp only[cx,Bool.or_eq_false_iff]at hn;exact hn.2.2) a6 a8
 | .UG i pl j pl2 k pl3,c,p,s,μ,u,Z,aO,hr,hg,hw,hz,hx,hN,hc,lM,hC,h=>by
   obtain⟨⟨ok1,aaU⟩,⟨ok2,aaT⟩,ok3,ahX⟩:=aO
   refine⟨iE hr hg hw hx.mn (λhl=>lM.elim id λhn=>?_) (λZ' p' μ' s' u' a1 a2 a3 a4 a5 a6 a8 a7=>lS ZL pl false p' s' μ' u' Z' aaU a1 a2 a3 (hz.trans a4.le) (hx.trans a4 hN) (Nat.le_trans hN a5) (λh=>by cases h) ?_ (hC.step a4 a5) a7) h.1,
    iE hr hg hw hx.mn (λhl=>lM.elim id λhn=>?_) (λZ' p' μ' s' u' a1 a2 a3 a4 a5 a6 a8 a7=>lS ZL pl2 false p' s' μ' u' Z' aaT a1 a2 a3 (hz.trans a4.le) (hx.trans a4 hN) (Nat.le_trans hN a5) (λh=>by cases h) ?_ (hC.step a4 a5) a7) h.2.1,
    iE hr hg hw hx.mn (λhl=>lM.elim id λhn=>?_) (λZ' p' μ' s' u' a1 a2 a3 a4 a5 a6 a8 a7=>lS ZL pl3 false p' s' μ' u' Z' ahX a1 a2 a3 (hz.trans a4.le) (hx.trans a4 hN) (Nat.le_trans hN a5) (λh=>by cases h) ?_ (hC.step a4 a5) a7) h.2.2⟩
   ·simp only[cx,hl,Bool.true_or]at hn;cases hn
   ·exact Ad ok1 lM (λhn=>by simp only[cx,Bool.or_eq_false_iff]at hn;exact hn.1.1.2) a6 a8
   ·simp only[cx,hl,Bool.true_or,Bool.or_true]at hn;cases hn
   ·exact Ad ok2 lM (λhn=>by simp only[cx,Bool.or_eq_false_iff]at hn;exact hn.1.2.2) a6 a8
   ·simp only[cx,hl,Bool.true_or,Bool.or_true]at hn;cases hn
   ·exact Ad ok3 lM (λhn=>by simp only[cx,Bool.or_eq_false_iff]at hn;exact hn.2.2) a6 a8
def Ws(ops:Array Oper):jL->Prop
 | .nil=>True
 | .tk i q=>(∀o,ops[i]?=some o->bS o=true)/\Ws ops q
 | .ld i q r=>(∀o,ops[i]?=some o->bS o=true)/\Ws ops q/\Ws ops r
 | .alt _ q r=>Ws ops q/\Ws ops r
 | .done=>True
theorem Sk{ah:Array Bool}{dV:List Nat}:∀{l:List Nat} {i:Nat},Cj ops ah dV l=some i->∀o,ops[i]?=some o->bS o=true:=λh o ho=>by
 obtain⟨_,oj,jc,iB,_⟩:=Ch _ h
 rw[ho]at jc;cases jc;exact iB
theorem To{ah:Array Bool}{dV:List Nat}:∀{l:List Nat} {i:Nat},Df ops ah dV l=some i->∀o,ops[i]?=some o->bS o=true:=λh o ho=>by
 obtain⟨_,oj,jc,iB,_⟩:=De _ h
 rw[ho]at jc;cases jc;exact iB
theorem Eh{dV:List Nat}{g:Nat->Option jL}(hg:∀i q,g i=some q->Ws ops q):∀{l:List Nat} {q:jL},Bl ops dV g l=some q->Ws ops q
 |[],q,h=>by cases h;trivial
 |i::l,q,h=>by
  simp only[Bl]at h
  cases hb:dw dV i with
  |true=>rw[hb]at h;exact Eh hg h
  |false=>
   rw[hb]at h
   simp only[cond_false]at h
   cases ht:WI ops i true with
   |true=>rw[ht]at h;cases h
   |false=>
    rw[ht]at h
    simp only[cond_false]at h
    split at h
    ·cases h
    ·rename_i qi hi
     split at h
     ·cases h
     ·rename_i r hl;cases h;exact⟨hg _ _ hi,Eh hg hl⟩
theorem sB:∀{g:Nat} {ah:Array Bool} {dV:List Nat} {p:jL},nD ops g ah dV=some p->Ws ops p
 |0,_,_,_,h=>by simp[nD]at h
 |g+1,ah,dV,p,h=>by
  simp only[nD]at h
  split at h
  ·cases h;trivial
  ·split at h
   ·rename_i j hj
    split at h
    ·rename_i q hq;cases h;exact⟨Sk hj,sB hq⟩
    ·cases h
   ·split at h
    ·rename_i j hj
     split at h
     ·rename_i q r hq hr;cases h;exact⟨To hj,sB hq,sB hr⟩
     ·cases h
    ·exact Eh (λi q hq=>sB hq) h
theorem VX{QP:eI->Mem->Prop}{Q:St->UW->Prop}:∀(pl:jL) (p:eI) (s:St) (μ:Mem) (u:UW) (Z:Fz),Ws ops pl->dW Z p s->Good Z u μ->Wf u->xo false Z μ u QP Q->Vq E fz ops QP pl p μ->Wq E.er fz ops Q pl s u:=by
 have take:∀{i:Nat} {pl:jL} {p:eI} {s:St} {μ:Mem} {u:UW} {Z:Fz},(∀o,ops[i]?=some o->bS o=true)->dW Z p s->Good Z u μ->(∀p' s',dW Z p' s'->Vq E fz ops QP pl p' μ->Wq E.er fz ops Q pl s' u)->
   zg E fz ops true μ i p (λcJ=>Vq E fz ops QP pl cJ μ)->stepT E.er fz ops u i s (λcJ=>Wq E.er fz ops Q pl cJ u):=by
  intro i pl p s μ u Z aO hr hg next h
  unfold zg at h
  unfold stepT
  cases ho:ops[i]? with
  |none=>rw[ho]at h;exact h.elim
  |some o=>
   rw[ho]at h
   simp only at h |-
   refine oX hr (λp1 s1 r1 h1=>?_) (λp1 s1 r1 h1=>next _ _ (r1.fin o (kW Z)) h1) h
   simp only[Bool.true_or,cond_true]at h1
   cases hl:qW o with
   |false=>exact Iw (KP:=λp' _=>Vq E fz ops QP pl p' μ) (K:=λs' _=>Wq E.er fz ops Q pl s' u) r1 (aO o ho) hl next h1
   |true=>exact vL (KP:=λp' _=>Vq E fz ops QP pl p' μ) (K:=λs' _=>Wq E.er fz ops Q pl s' u) (Zr:=Z) r1 hg (Fz.le.refl Z) (.inr hg) hl next h1
 intro pl
 induction pl with
 |nil=>intro p s μ u Z aO hr hg hw hC h;exact hC Z p μ s u hr hg hw hg.ext (Nat.le_refl _) (λh=>by cases h) h
 |tk i pl ih=>intro p s μ u Z aO hr hg hw hC h;exact take aO.1 hr hg (λp' s' r k=>ih p' s' μ u Z aO.2 r hg hw hC k) h
 |ld i pl r ih ihr=>intro p s μ u Z aO hr hg hw hC h;exact⟨take aO.1 hr hg (λp' s' r k=>ih p' s' μ u Z aO.2.1 r hg hw hC k) h.1,ihr p s μ u Z aO.2.2 hr hg hw hC h.2⟩
 |alt i pl r ih ihr=>
  intro p s μ u Z aO hr hg hw hC h
  refine⟨?_,ihr p s μ u Z aO.2 hr hg hw hC h.2⟩
  have h1:=h.1
  unfold Sq at h1
  unfold N_
  cases ho:ops[i]? with
  |none=>rw[ho]at h1;exact h1.elim
  |some o=>
   rw[ho]at h1
   simp only at h1 |-
   refine oX hr (λp1 s1 r1 h1=>?_) (λp1 s1 r1 h1=>ih _ _ μ u Z aO.1 (r1.fin o (kW Z)) hg hw hC h1) h1
   exact n_ r1 hg hw (λZ' p' μ' s' u' r g w e n _ k=>ih p' s' μ' u' Z' aO.1 r g w (hC.step e n) k) h1
 |done=>intro p s μ u Z aO hr hg hw hC h;trivial
theorem Dc{α β:Type}(f:α->β):∀(l:List (Nat×α)) (i:Nat),look (l.map λx=>(x.1,f x.2)) i=(look l i).map f
 |[],_=>rfl
 |(k,x)::l,i=>by
  simp only[List.map_cons,look]
  cases Nat.beq k i
  ·exact Dc f l i
  ·rfl
end
def vg(Z:Fz)(μ:Mem)(u:UW)(QP:Exit->eI->Mem->Prop)(Q:Exit->St->UW->Prop):Prop:=∀e,xo false Z μ u (QP e) (Q e)
theorem vg.step{Z Z1:Fz}{μ μ1:Mem}{u u1:UW}{QP:Exit->eI->Mem->Prop}{Q:Exit->St->UW->Prop}(h:vg Z μ u QP Q)(e:Ext Z μ u.heap.size Z1 μ1)(hN:u.heap.size<=u1.heap.size):vg Z1 μ1 u1 QP Q:=λx=>(h x).step e hN
theorem xo.now{Z:Fz}{μ:Mem}{u:UW}{KP:eI->Mem->Prop}{K:St->UW->Prop}(h:xo false Z μ u KP K){p:eI}{s:St}(hr:dW Z p s)(hg:Good Z u μ)(hw:Wf u)(hk:KP p μ):K s u:=
 h Z p μ s u hr hg hw hg.ext (Nat.le_refl _) (λh=>by cases h) hk
theorem vg.uM{Z:Fz}{μ:Mem}{u:UW}{QP:Exit->eI->Mem->Prop}{Q:Exit->St->UW->Prop}{NP:eI->Mem->Prop}{N:St->UW->Prop}(h:vg Z μ u QP Q)(hn:xo false Z μ u NP N):vg Z μ u (GZ NP QP) (uM N Q):=by
 intro e
 cases e<;>first|exact hn|exact h _
theorem vg.z_{Z:Fz}{μ:Mem}{u:UW}{QP:Exit->eI->Mem->Prop}{Q:Exit->St->UW->Prop}(h:vg Z μ u QP Q)(id:Nat):vg Z μ u (It id QP) (z_ id Q):=by
 intro e
 cases e with
 |exit i=>
  intro Z' p' μ' s' u' a1 a2 a3 a4 a5 a6 a7
  simp only[It]at a7
  simp only[aK.z_]
  cases hb:Nat.beq i id with
  |true=>rw[hb]at a7;exact h .normal Z' p' μ' s' u' a1 a2 a3 a4 a5 a6 a7
  |false=>rw[hb]at a7;exact h (.exit i) Z' p' μ' s' u' a1 a2 a3 a4 a5 a6 a7
 |normal=>exact h _
 |ret=>exact h _
 |goto i=>exact h _
 |panic i=>exact h _
 |outgrown=>exact h _
def agn(Z:Fz)(μ:Mem)(N:Nat)(l:ve)(J:Bz l->Mem->Prop)(b:Tup l.er)(u:UW):Prop:=
 ∃Z' μ' a,Ext Z μ N Z' μ'/\Good Z' u μ'/\Wf u/\N<=u.heap.size/\wJ Z' l a b/\J a μ'
theorem Jh{Z:Fz}{μ:Mem}{u:UW}{c:xn}{J:Bz c.live->Mem->Prop}{J':Tup c.er.live->UW->Prop}(h:∀Z' μ' u' a b,Ext Z μ u.heap.size Z' μ'->Good Z' u' μ'->Wf u'->u.heap.size<=u'.heap.size->wJ Z' c.live a b->J a μ'->J' b u'):xo false Z μ u (PB c J) (WG c.er J'):=
 λZ' p' μ' s' u' a1 a2 a3 a4 a5 _ a7=>NV a1 a7 λa b uk hj=>h Z' μ' u' a b a4 a2 a3 a5 uk hj
theorem acO{p:Option Code}{A B A' B':Prop}{l:List Nat}{F F':Nat->Prop}(h:PK p A B (l.map λi=>(i,F i)))(ha:A->A')(hb:B->B')(hf:∀i,F i->F' i):PK p A' B' (l.map λi=>(i,F' i)):=by
 unfold PK at h |-
 split at h
 ·exact ha h
 ·exact hb h
 ·rename_i i
  induction l with
  |nil=>exact h
  |cons x l ih=>
   simp only[List.map_cons,JW]at h |-
   cases hx:Nat.beq x i with
   |true=>rw[hx]at h;simp only[cond_true]at h |-;exact hf x h
   |false=>rw[hx]at h;simp only[cond_false]at h |-;exact ih h
 ·exact h.elim
theorem Good.aga{Z:Fz}{u:UW}{μ:Mem}(h:Good Z u μ){b:Nat}{w':World}{ob:Obj}(hB:tA u.toWorld w' b ob){F:w_}{S:Fr}(hF:gy Z F S):Good Z (u.born b w') (μ.set b (some (.obj ob F S)))/\μ b=none:=by
 have vY:u.heap.size<=b:=hB.ge
 have de:∀c,c<u.heap.size->(u.born b w').heap[c]?=u.heap[c]?:=λc hc=>hB.below.block c hc
 refine⟨h.go (Fz.le.refl Z) (λc C hC=>.inl ⟨hC,de c (h.HD (by rw[hC];simp))⟩) (λc o ho=>?_),h.bJ vY⟩
 by_cases e:c=b
 ·subst e
  rw[Mem.aq]at ho;cases ho
  exact .inr ⟨λ_=>.inr rfl,h.Xr vY,hB.at_,hF⟩
 ·rw[Mem.aC _ _ e]at ho
  exact .inl ⟨ho,de c (h.Tl (by rw[ho];simp)),λhp=>.inl hp,rfl⟩
theorem Good.mask{Z:Fz}{u:UW}{μ:Mem}{l:Nat}{ob:Obj}{F:w_}{S:Fr}(h:Good Z u (μ.set l (some (.obj ob F S))))(hl:μ l=none):Good Z ⟨u.toWorld.putObj l dG,λb=>u.ij b/\b≠l⟩ μ:=by
 obtain⟨_,hz,_⟩:=h.mem l (.obj ob F S) (Mem.aq _ _ _)
 refine h.go (Fz.le.refl Z) (λc C hC=>.inl ⟨hC,?_⟩) (λc o ho=>.inl ?_)
 ·have aT:c≠l:=by rintro rfl;rw[hz]at hC;cases hC
  exact bg aT
 ·have aT:c≠l:=by rintro rfl;rw[hl]at ho;cases ho
  exact⟨by rw[Mem.aC _ _ aT];exact ho,bg aT,λhp=>⟨hp,aT⟩,rfl⟩
theorem SI{Z:Fz}{p:w_}{s:Fr}(h:gy Z p s):gy Z (JB p) (Bs s):=by
 intro t
 unfold JB Bs
 have ht:=h t
 cases hp:p t with
 |box k o=>exact .bd _
 |bd=>exact .bd _
 |_=>
  rw[hp]at ht
  cases hs:s t with
  |complex k a b=>rw[hs]at ht;first|(cases ht;done)|(cases ht;rename_i ow _;cases ow)
  |_=>rw[hs]at ht;exact ht
theorem FM{Z:Fz}:∀{qs:List Nat} {ps:List PV} {vs:List Value} {p:w_} {s:Fr},gy Z p s->dq Z ps vs->gy Z (He p qs ps) (xG s qs vs)
 |[],ps,vs,p,s,h,_=>by cases ps<;>cases vs<;>exact h
 |q::qs,[],vs,p,s,h,hm=>by rw[hm.pj];exact h
 |q::qs,x::ps,vs,p,s,h,hm=>by
  obtain⟨v,rC,rfl,h1,h2⟩:=hm.inv
  exact FM (p:=aQ p q x) (s:=kB s q v) (h.kB h1) h2
variable {E:mh}
def VS(E:mh)(c:Code):Prop:=∀(fz:List Nat) (QP:Exit->eI->Mem->Prop) (Q:Exit->St->UW->Prop) (p:eI) (s:St) (μ:Mem) (u:UW) (Z:Fz),dW Z p s->Good Z u μ->Wf u->vg Z μ u QP Q->V E fz c QP p μ->W E.er fz c Q s u
theorem P_{P:Program}{f:PV}{fv:Value}{Z:Fz}{μ:Mem}{u:UW}{FP:w_}{F9:Fr}{aam:List PV->(Option Code->Mem->Prop)->Mem->Prop}{body:List Value->(Option Code->UW->Prop)->UW->Prop}{KP:Option Code->Mem->Prop}{K:Option Code->UW->Prop}
  (hg:Good Z u μ) (hw:Wf u) (hf:cy Z f fv) (hF:gy Z FP F9) (h:bk P f aam KP μ)
  (afu:∀(Z1:Fz) (u1:UW) (μ1:Mem) (vsP:List PV) (vs:List Value) (RP:Option Code->Mem->Prop) (R:Option Code->UW->Prop),gy Z1 FP F9->Good Z1 u1 μ1->Wf u1->bf Z1 vsP vs->(∀pc Z' μ' u',Ext Z1 μ1 u1.heap.size Z' μ'->Good Z' u' μ'->Wf u'->u1.heap.size<=u'.heap.size->RP pc μ'->R pc u')->aam vsP RP μ1->body vs R u1)
  (hK:∀pc Z' μ' u',Ext Z μ u.heap.size Z' μ'->Good Z' u' μ'->Wf u'->u.heap.size<=u'.heap.size->KP pc μ'->K pc u'):V_ P fv body K u:=by
 obtain⟨⟨g,a,b,rfl⟩,h⟩:=h
 obtain⟨fv',rV,rfl,_,_⟩:=id hf.ofFn
 refine⟨⟨g,_,_,rfl⟩,λl rec w' hil hB hy=>?_⟩
 obtain⟨gb,nR⟩:=hg.aga hB hF
 have hwb:Wf (u.born l w'):=hw.born hB
 have vY:u.heap.size<=l:=hB.ge
 have hbs:u.heap.size<=w'.heap.size:=hB.below.size
 have ry:∀Z1:Fz,cy Z1 (.fn (.yield l) [] []) (.func (.yield l) #[] #[]):=λZ1=>bf.GX (fv:=[]) (cv:=[]) (bf.nil Z1) (bf.nil Z1)
 have fu:=h l (λp=>.obj (rec p) FP F9) nR (λvs μ1 R AS hb=>?_)
 ·have hc2:=bY.v gb hwb hf (bf.cons rfl (ry Z) (bf.nil Z)) fu
  refine hc2.mono λv lo w2 hm Wk hp=>?_
  obtain⟨Z',μ',pp,e,g',hr,pc,μ3,hl3,rfl,hk⟩:=hp
  obtain⟨ow,Gn,hhl,_⟩:=g'.mem l _ (Mem.aq _ _ _)
  have gD:(u.born l w').heap.size<=w2.heap.size:=hm.size
  have Qx:w'.heap.size<=w2.heap.size:=gD
  refine⟨pc,hhl,hK pc Z' μ3 _ ⟨e.le,λb C hb hn=>?_,λb hb=>?_,λb hb=>?_,λb hb=>hg.HD hb⟩ (g'.mask hl3) ?_ ?_ hk⟩
  ·refine e.zs b C hb ?_
   have cz:=hg.HD (b:=b) (by rw[hb];simp)
   rw[Mem.aC _ _ (by omega)];exact hn
  ·rcases e.zn b hb with h1|h1|h1
   ·exact .inl h1
   ·by_cases e':b=l
    ·subst e';exact .inr (.inr vY)
    ·rw[Mem.aC _ _ e']at h1;exact .inr (.inl h1)
   ·have:w'.heap.size<=b:=h1
    exact .inr (.inr (by omega))
  ·have aT:b≠l:=by rintro rfl;exact hb hl3
   rcases e.mn b (by rw[Mem.aC _ _ aT];exact hb)with h1|h1
   ·rw[Mem.aC _ _ aT]at h1;exact .inl h1
   ·have:w'.heap.size<=b:=h1
    exact .inr (by omega)
  ·intro b hb
   have:=hwb.ret (lo:=lo) gD b hb.1
   simpa using this
  ·show _<=(w2.putObj l dG).heap.size
   have:(w2.putObj l dG).heap.size=w2.heap.size:=by simp
   omega
 ·show Ay P (.fn (.yield l) [] []) vs _ _
  intro Z1 u1 fv1 WA g1 RH ai7 aim
  have ef:fv1=.func (.yield l) #[] #[]:=by
   obtain⟨x,y,rfl,h1,h2⟩:=ai7.ofFn
   rw[h1.pj,h2.pj]
  subst ef
  obtain⟨ow,Gn,hhl,hFF⟩:=g1.mem l _ (Mem.aq _ _ _)
  have ow:=ow rfl
  have sM:l<u1.heap.size:=(Array.getElem?_eq_some_iff.1 hhl).1
  have hwm:Wf ⟨u1.toWorld.putObj l dG,λb=>u1.ij b/\b≠l⟩:=λb hb=>by simpa using RH b hb.1
  have gU:=hy WA u1.toWorld (λb=>u1.ij b/\b≠l) (λpc uu=>∃Z' μ3,Ext Z1 μ1 u1.heap.size Z' μ3/\Good Z' uu μ3/\Wf uu/\R pc μ3) hhl (λb hb=>⟨RH b hb.1,hb.2⟩)
   (afu Z1 _ μ1 vs WA R _ hFF (g1.mask AS) hwm aim (λpc Z' μ' u' e1 e2 e3 e4 e5=>⟨Z',μ',by simpa using e1,e2,e3,e5⟩) hb)
  refine lB.2 ⟨λb=>(u1.ij b/\b≠l)\/b=l,λb hb=>hb.elim (·.1) (λe=>by subst e;exact ow),gU.mono λv lo w2 hm Wk _ hp=>?_⟩
  obtain⟨pc,ij,w3,rfl,rfl,hmk,MP,Z',μ3,e,g3,hw3,hR⟩:=hp
  have XO:l<w3.heap.size:=(Array.getElem?_eq_some_iff.1 hmk).1
  have aeC:Z' l=none:=by
   cases hz:Z' l with
   |none=>rfl
   |some C=>
    rcases e.zn l (by rw[hz];simp)with h1|h1|h1
    ·exact absurd Gn h1
    ·exact absurd AS h1
    ·omega
  have ZD:μ3 l=none:=by
   cases hz:μ3 l with
   |none=>rfl
   |some C=>
    rcases e.mn l (by rw[hz];simp)with h1|h1
    ·exact absurd AS h1
    ·omega
  have aix:(w3.putObj l (rec pc)).heap.size=w3.heap.size:=by simp
  refine⟨Z',μ3.set l (some (.obj (rec pc) FP F9)),pB pc.isNone,⟨e.le,λb C hb hn=>?_,λb hb=>?_,λb hb=>?_,e.lt⟩,⟨λb C hb=>?_,λb o ho=>?_⟩,.raw _ rfl rfl,pc,μ3,rfl,ZD,rfl,hR⟩
  ·refine e.zs b C hb ?_
   by_cases e':b=l
   ·subst e';exact AS
   ·rw[Mem.aC _ _ e']at hn;exact hn
  ·rcases e.zn b hb with h1|h1|h1
   ·exact .inl h1
   ·by_cases e':b=l
    ·subst e';exact absurd AS h1
    ·exact .inr (.inl (by rw[Mem.aC _ _ e'];exact h1))
   ·exact .inr (.inr h1)
  ·by_cases e':b=l
   ·subst e';exact .inl (by rw[Mem.aq];simp)
   ·rw[Mem.aC _ _ e']at hb |-
    exact e.mn b hb
  ·have aT:b≠l:=by rintro rfl;rw[aeC]at hb;cases hb
   obtain⟨A,T,f,hA,cZ⟩:=g3.IP b C hb
   exact⟨A,T,f,(bg aT).trans hA,cZ⟩
  ·by_cases e':b=l
   ·subst e'
    rw[Mem.aq]at ho;cases ho
    exact⟨λ_=>.inl ow,aeC,World.putObj_heap_same XO,λt=>(hFF t).mono e.le⟩
   ·rw[Mem.aC _ _ e']at ho
    obtain⟨p1,p2⟩:=g3.mem b o ho
    refine⟨λLF=>?_,p2.go (Fz.le.refl _) rfl (bg e')⟩
    rcases MP b (p1 LF)with h1|h1
    ·exact .inl h1.1
    ·refine .inr ⟨h1,?_⟩
     rw[aix];exact p2.lt
theorem YR(c:Code):VS E c:=by
 induction c with
 |skip=>intro fz QP Q p s μ u Z hr hg hw hC h;exact(hC .normal).now hr hg hw h
 |ret=>intro fz QP Q p s μ u Z hr hg hw hC h;exact(hC .ret).now hr hg hw h
 |exit i=>intro fz QP Q p s μ u Z hr hg hw hC h;exact(hC (.exit i)).now hr hg hw h
 |region id ops draw=>
  intro fz QP Q p s μ u Z hr hg hw hC h
  cases draw with
  |false=>exact yE ops.toList p s μ u Z hr hg hw (hC .normal) h
  |true=>
   simp only[V]at h
   simp only[W]
   obtain⟨hm,h⟩:=av h
   have uY:E.er.P.follows .mixedOrders=true:=hm
   rw[uY]
   simp only[cond_true]
   have ai4:isQ E.er.gp id=isQ E.gp id:=rfl
   rw[ai4]
   cases hiq:isQ E.gp id with
   |true=>
    rw[hiq]at h
    simp only[cond_true]at h |-
    cases hp:qQ ops with
    |none=>rw[hp]at h;exact h.elim
    |some pl=>
     rw[hp]at h
     simp only at h |-
     have aO:Ws ops pl:=by
      unfold qQ at hp
      cases hs:Region.noSelect ops with
      |true=>rw[hs]at hp;exact sB hp
      |false=>rw[hs]at hp;cases hp
     exact VX pl p s μ u Z aO hr hg hw (hC .normal) h
   |false=>
   rw[hiq]at h
   simp only[cond_false]at h |-
   cases hp:vJ ops with
   |none=>rw[hp]at h;exact h.elim
   |some pl=>
    rw[hp]at h
    simp only at h |-
    have aO:Wt ops pl:=by
     unfold vJ at hp
     cases hs:Region.noSelect ops with
     |true=>rw[hs]at hp;exact lJ hp
     |false=>rw[hs]at hp;cases hp
    exact lS hg pl true p s μ u Z aO hr hg hw (Fz.le.refl Z) hg.ext (Nat.le_refl _) (λ_=>hg) (.inl (Below.refl _ _)) (hC .normal) h
 |seq x y Ka J_=>
  intro fz QP Q p s μ u Z hr hg hw hC h
  simp only[V]at h
  simp only[W]
  have ae9:∀{i:Nat},look E.er.kP i=(look E.kP i).map xn.er:=λ{i}=>Dc xn.er E.kP i
  have Um:(gH y).bind (look E.er.kP)=((gH y).bind (look E.kP)).map xn.er:=by
   cases gH y with
   |none=>rfl
   |some i=>exact ae9
  rw[Um]
  split at h
  ·rename_i hj
   rw[hj]
   exact Ka fz _ _ p s μ u Z hr hg hw (hC.uM λZ' p' μ' s' u' a1 a2 a3 a4 a5 _ a7=>J_ fz QP Q p' s' μ' u' Z' a1 a2 a3 (hC.step a4 a5) a7) h
  ·rename_i l hj
   rw[hj]
   simp only[Option.map_some]
   obtain⟨hl,J,hA,hB⟩:=av h
   rw[hr.D]at hl hA
   rw[hl]
   simp only[cond_true]
   refine⟨agn Z μ u.heap.size l.live J,?_,?_⟩
   ·exact Ka _ _ _ p s μ u Z hr hg hw (hC.uM (Jh λZ' μ' u' a b e1 e2 e3 e4 e5 e6=>⟨Z',μ',a,e1,e2,e3,e4,e5,e6⟩)) hA
   ·rintro b u' ⟨Z',μ',a,e1,e2,e3,e4,e5,e6⟩
    exact J_ fz QP Q _ _ μ' u' Z' (Oy (hr.mono e1.le) (writes x) e5) e2 e3 (hC.step e1 e4) (hB a μ' e6)
 |cond c x y Ka J_=>
  intro fz QP Q p s μ u Z hr hg hw hC h
  simp only[V]at h
  simp only[W]
  have hc:=hr.ev c
  split at h
  ·rename_i t ht
   rw[ht]at hc
   rw[hc.ofRaw.1]
   simp only
   cases t with
   |true=>exact Ka fz QP Q p s μ u Z hr hg hw hC h
   |false=>exact J_ fz QP Q p s μ u Z hr hg hw hC h
  ·exact h.elim
 |block id x ih=>
  intro fz QP Q p s μ u Z hr hg hw hC h
  simp only[V]at h
  simp only[W]
  exact ih fz _ _ p s μ u Z hr hg hw (hC.z_ id) h
 |loop x ih=>
  intro fz QP Q p s μ u Z hr hg hw hC h
  simp only[V]at h
  simp only[W]
  have Um:(gH x).bind (look E.er.loops)=((gH x).bind (look E.loops)).map xn.er:=by
   cases gH x with
   |none=>rfl
   |some i=>exact Dc xn.er E.loops i
  rw[Um]
  split at h
  ·exact h.elim
  ·rename_i l hj
   rw[hj]
   simp only[Option.map_some]
   obtain⟨hl,h⟩:=av h
   rw[hr.D]at hl h
   rw[hl]
   simp only[cond_true]
   refine NV hr h λa b uk ae8=>?_
   obtain⟨I,⟨n0,h0⟩,MO⟩:=ae8
   refine⟨λn=>agn Z μ u.heap.size l.live (I n),⟨n0,Z,μ,a,hg.ext,hg,hw,Nat.le_refl _,uk,h0⟩,?_⟩
   rintro n b u' ⟨Z',μ',a,e1,e2,e3,e4,e5,e6⟩
   refine ih _ _ _ _ _ μ' u' Z' (Oy (hr.mono e1.le) (writes x) e5) e2 e3 ((hC.step e1 e4).uM (Jh λZ2 μ2 u2 a2 b2 f1 f2 f3 f4 f5 f6=>?_)) (MO n a μ' e6)
   obtain⟨m,hm,hi⟩:=f6
   exact⟨m,hm,Z2,μ2,a2,e1.trans f1 e4,f2,f3,Nat.le_trans e4 f4,f5,hi⟩
 |rangeFunc f ps x y Ka J_=>
  intro fz QP Q p s μ u Z hr hg hw hC h
  simp only[V]at h
  simp only[W]
  have aiC:look E.er.uc (ps.toList.headD 0)=look E.uc (ps.toList.headD 0):=rfl
  rw[aiC]
  split at h
  ·exact h.elim
  ·rename_i ts Bu
   rw[Bu]
   simp only
   obtain⟨hlen,h⟩:=av h
   rw[hlen]
   simp only[cond_true]
   refine P_ (FP:=JB p.σ) (F9:=Bs s.σ) hg hw (hr.ev f) (SI hr.slot) h ?_ ?_
   ·intro Z1 u1 μ1 vsP vs RP R hF HN RH HL hR hb
    obtain⟨qJ,aO,⟨rfl,hb⟩,hex⟩:=we (Z:=Z1) hb
    refine hex (G:=λrC=>vs=rC/\W E.er [] x (Td λgg u1=>W E.er [] y (Mm R) gg u1) ⟨xG (Bs s.σ) ps.toList rC,[]⟩ u1) HL.m ⟨rfl,?_⟩
    refine Ka [] _ _ ⟨He (JB p.σ) ps.toList vsP,[]⟩ _ μ1 u1 Z1 ⟨rfl,FM hF HL.m⟩ HN RH (λe=>?_) hb
    cases e with
    |normal=>
     intro Z2 p2 μ2 s2 u2 a1 a2 a3 a4 a5 _ a7
     refine J_ [] _ _ p2 s2 μ2 u2 Z2 a1 a2 a3 (λe=>?_) a7
     intro Z3 p3 μ3 s3 u3 b1 b2 b3 b4 b5 _ b7
     cases e with
     |normal=>exact hR none Z3 μ3 u3 (a4.trans b4 a5) b2 b3 (Nat.le_trans a5 b5) b7
     |ret=>exact hR (some .ret) Z3 μ3 u3 (a4.trans b4 a5) b2 b3 (Nat.le_trans a5 b5) b7
     |exit i=>exact hR (some (.exit i)) Z3 μ3 u3 (a4.trans b4 a5) b2 b3 (Nat.le_trans a5 b5) b7
     |goto i=>exact b7.elim
     |panic i=>exact b7.elim
     |outgrown=>exact b7.elim
    |ret=>intro Z2 p2 μ2 s2 u2 a1 a2 a3 a4 a5 _ a7;exact a7.elim
    |exit i=>intro Z2 p2 μ2 s2 u2 a1 a2 a3 a4 a5 _ a7;exact a7.elim
    |goto i=>intro Z2 p2 μ2 s2 u2 a1 a2 a3 a4 a5 _ a7;exact a7.elim
    |panic i=>intro Z2 p2 μ2 s2 u2 a1 a2 a3 a4 a5 _ a7;exact a7.elim
    |outgrown=>intro Z2 p2 μ2 s2 u2 a1 a2 a3 a4 a5 _ a7;exact a7.elim
   ·intro pc Z' μ' u' e1 e2 e3 e4 hk
    have EZ:=hr.mono e1.le
    refine acO (F:=λi=>QP (.exit i) p μ') hk (λha=>(hC.step e1 e4 .normal).now EZ e2 e3 ha) (λhb=>?_) (λi hi=>(hC.step e1 e4 (.exit i)).now EZ e2 e3 hi)
    cases hh:nT y with
    |true=>rw[hh]at hb;simp only[cond_true]at hb |-;exact(hC.step e1 e4 .ret).now EZ e2 e3 hb
    |false=>rw[hh]at hb;exact hb.elim
 |scope x ih=>intro fz QP Q p s μ u Z hr hg hw hC h;exact h.elim
 |label l=>intro fz QP Q p s μ u Z hr hg hw hC h;exact h.elim
 |goto l=>intro fz QP Q p s μ u Z hr hg hw hC h;exact h.elim
 |refuse x=>intro fz QP Q p s μ u Z hr hg hw hC h;exact h.elim
theorem xL{P:Program}{rw:List Nat}{Z:Fz}{p:eI}{s:St}{μ:Mem}{u:UW}(hr:dW Z p s)(hg:Good Z u μ):∀{rs:List ResultVar} {FP:List PV->Prop} {F:List Value->Prop},(∀ps vs,bf Z ps vs->FP ps->F vs)->xM P rw p μ rs FP->vu P s u rs F
 |[],FP,F,hF,h=>hF [] [] (bf.nil Z) h
 | .tmp t::rs,FP,F,hF,h=>by
   simp only[xM]at h
   simp only[vu]
   obtain⟨hk,h⟩:=av h
   rw[(hr.slot t).plain hk]
   simp only[cond_true]
   exact xL hr hg (λps vs uh hp=>hF _ _ (bf.cons hk (hr.slot t) uh) hp) h
 | .cell a t::rs,FP,F,hF,h=>by
   simp only[xM]at h
   simp only[vu]
   cases hk:nO P (dw rw a) t with
   |none=>rw[hk]at h;exact h.elim
   |some ks=>
    rw[hk]at h
    rw[zA hk]
    simp only at h |-
    rw[List.length_map]
    have ha:=hr.slot a
    split at h
    ·rename_i k off he
     rw[he]at ha;rw[ha.AL]
     simp only
     rw[<- hr.D]
     split at h
     ·rename_i m hm
      rw[hm]
      simp only
      obtain⟨hc,h⟩:=av h
      simp only[Bool.and_eq_true]at hc
      have f_:=(gy.zm (k:=k) hr.slot ks.length off).c hc.2
      rw[hc.1,lP f_]
      simp only[Bool.and_self,cond_true]
      exact xL hr hg (λps vs uh hp=>hF _ _ (bf.cons (HA hk (AK _ _ _ _) hc.2) (C_ f_) uh) hp) h
     ·exact h.elim
    ·unfold aF at h
     split at h
     ·rename_i b off he
      rw[he]at ha
      rw[ha.ofRaw.1]
      show eY (.pointer (some ⟨b,off,none⟩)) _
      unfold eY
      simp only
      obtain⟨ps0,hlen,hc,⟨fB,h⟩,hex⟩:=qn (Z:=Z) h
      obtain⟨vs0,hv,hm⟩:=xP hg fB
      have f_:=hm.c hc
      exact hex (G:=λus=>rd u.heap b off ks.length=some us/\vu P s u rs λvs=>F (Hz (d_ P t) us::vs)) f_.m ⟨hv,xL hr hg (λps vs uh hp=>hF _ _ (bf.cons (HA hk hlen hc) (C_ f_) uh) hp) h⟩
     ·exact h.elim
def Ou(n:Nat)(c:Code)(rs:List ResultVar)(k:Nat):Bool:=il n c&&Nat.ble n 65536&&rs.all (Gd n)&&Nat.ble k n
theorem VK{Z:Fz}{ps:List PV}{vs:List Value}(h:bf Z ps vs):gy Z (Pp ps) (Le vs):=by
 intro t
 unfold Pp Le
 cases hp:ps[t]? with
 |none=>
  have:vs[t]?=none:=by
   rw[List.getElem?_eq_none_iff]at hp |-;rw[h.1];exact hp
  rw[this];exact kW Z
 |some p=>
  obtain⟨v,hv,_,hr⟩:=h.get hp
  rw[hv];exact hr
theorem VY{f:FuncId}{fn:Func}{c:Code}{rs:List ResultVar}{args:List PV}{μ:Mem}{R:Kq}(hf:E.P.funcs[f]?=some fn)(hb:fn.body=some c)(hnt:fn.ntmps=E.n)(LG:fn.results.toList=rs)
  (aO:Ou E.n c rs args.length=true) (iV:eG E.P f=true) (h:VF E c rs args μ R):aa E.P f args μ R:=by
 intro Z u vs hg hw HL
 refine⟨iV,u.ij,λ_ hb=>hb,?_⟩
 have aiL:Xl E.n c rs vs=true:=by
  simp only[Ou,Bool.and_eq_true]at aO
  simp only[Xl,Bool.and_eq_true]
  refine⟨⟨aO.1,by rw[HL.1];exact aO.2⟩,List.all_eq_true.2 λv hv=>HL.zt v hv⟩
 have hW:WF E.P E.n E.gp E.er.loops E.er.kP E.er.uc c rs vs ⟨u.toWorld,u.ij⟩ (λv u'=>∃Z' μ' p,Ext Z μ u.heap.size Z' μ'/\Good Z' u' μ'/\Wf u'/\cy Z' p v/\R p μ'):=by
  refine YR c [] _ _ ⟨Pp args,[]⟩ _ μ u Z ⟨rfl,VK HL⟩ hg hw (λe=>?_) h
  have fin:∀(Z':Fz) (p':eI) (μ':Mem) (s':St) (u':UW),dW Z' p' s'->Good Z' u' μ'->Wf u'->Ext Z μ u.heap.size Z' μ'->xM E.P E.mL p' μ' rs (Sf R μ')->vu E.P s' u' rs (Pz (λv u'=>∃Z' μ' p,Ext Z μ u.heap.size Z' μ'/\Good Z' u' μ'/\Wf u'/\cy Z' p v/\R p μ') u'):=by
   intro Z' p' μ' s' u' a1 a2 a3 a4 a7
   refine xL a1 a2 (λps rC uh hR=>?_) a7
   match ps,uh with
   |[],uh=>rw[uh.pj];exact⟨Z',μ',_,a4,a2,a3,kW Z',hR⟩
   |[q],uh=>
    obtain⟨v,ahA,rfl,_,h2,h3⟩:=uh.inv
    rw[h3.pj]
    exact⟨Z',μ',_,a4,a2,a3,h2,hR⟩
   |q::q'::ps,uh=>
    obtain⟨v,ahA,rfl,_,_,h3⟩:=id uh.inv
    obtain⟨v',vs3,rfl,_,_,_⟩:=h3.inv
    exact⟨Z',μ',_,a4,a2,a3,uh.xC,hR⟩
  intro Z' p' μ' s' u' a1 a2 a3 a4 a5 _ a7
  cases e with
  |normal=>exact fin Z' p' μ' s' u' a1 a2 a3 a4 a7
  |ret=>exact fin Z' p' μ' s' u' a1 a2 a3 a4 a7
  |exit i=>exact a7.elim
  |goto i=>exact a7.elim
  |panic i=>exact a7.elim
  |outgrown=>exact a7.elim
 refine(VV hf hb hnt LG aiL (λb hb=>hw b hb) hW).mono λv lo w' hm Wk hp=>?_
 obtain⟨ij,MP,Z',μ',p,e,g',XE,hr,hR⟩:=hp
 refine⟨Z',μ',p,e,⟨g'.IP,λb o ho=>?_⟩,hr,hR⟩
 obtain⟨p1,p2⟩:=g'.mem b o ho
 refine⟨λLF=>?_,p2⟩
 rcases MP b (p1 LF)with h1|h1
 ·exact .inl h1
 ·exact .inr ⟨h1,p2.lt⟩
theorem Rw{E:mh}{S:Prop}{f:FuncId}{fn:Func}{c:Code}{rs:List ResultVar}{args:List PV}{μ:Mem}{R:Kq}(hf:E.P.funcs[f]?=some fn)(hb:fn.body=some c)(hnt:fn.ntmps=E.n)(LG:fn.results.toList=rs)
  (aO:Ou E.n c rs args.length=true) (iV:eG E.P f=true) (e:S=VF E c rs args μ R) (h:S):aa E.P f args μ R:=by
 subst e
 exact VY hf hb hnt LG aO iV h
theorem VC{P:Program}{f:FuncId}{fn:Func}{S:Prop}{args:List PV}{μ:Mem}{R:Kq}(gp:List Nat)(loops kP:List (Nat×xn))(uc:List (Nat×List TypeId))(cst wrt mL:List Nat)(hf:P.funcs[f]?=some fn)(h:S)
  (hb:fn.body=some (fn.body.getD .skip):=by rfl) (aO:Ou fn.ntmps (fn.body.getD .skip) fn.results.toList args.length=true:=by kernel_rfl) (iV:eG P f=true:=by kernel_rfl)
  (e:S=VF ⟨P,fn.ntmps,gp,loops,kP,uc,cst,wrt,mL⟩ (fn.body.getD .skip) fn.results.toList args μ R:=by kernel_rfl):aa P f args μ R:=
 Rw (E:=⟨P,fn.ntmps,gp,loops,kP,uc,cst,wrt,mL⟩) hf hb rfl rfl aO iV e h
@[reducible] def pA(a:Option Addr):PV:=.raw (.pointer a)
@[reducible] def pV(a:Option Addr)(n c:Nat):PV:=.raw (.slice a n c)
def nP(a:Option Addr)(F:Nat->Nat->Prop):Prop:=nn a (aF (.raw (.pointer a)) F)
def bJ(μ:Mem)(T:TypeId)(cs:List PV)(K:Nat->Mem->Prop):Prop:=∀b:Nat,μ b=none->K b (μ.set b (some (.cells T cs)))
end Go.aK
