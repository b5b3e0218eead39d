import Derived.Test.YtbkejjmjopgpoaaGreatB04
import Derived.Test.YtbkejjmjopgpoaaGreatProg
import Derived.KernelRfl
import Derived.ChangeArms
import Derived.WideShapes
import Derived.DataReads
set_option linter.all false
namespace Go.az
open Go.RowKit
theorem Hq{size sz:Nat}{rows:Lq}(h:ow size sz rows=true):sz=size\/rows=[]:=by
 unfold ow at h
 cases hb:Nat.beq sz size with
 |true=>exact .inl (beq_iff.1 hb)
 |false=>
  rw[hb]at h
  simp only[cond_false]at h
  split at h
  ·exact .inr rfl
  ·cases h
theorem Ext.sub{Z Z':Fz}{μ μ' mQ:Mem}{N:Nat}(h:Ext Z μ N Z' μ')(hs:mQ.sub μ'):Ext Z μ N Z' mQ:=
 ⟨h.le,h.zs,h.zn,λb hb=>by
  cases hx:mQ b with
  |none=>exact absurd hx hb
  |some o=>exact h.mn b (by rw[hs b o hx];simp),h.lt⟩
theorem bw.size{Z:Fz}{sz size:Nat}{fl:Fl}{rows:Lq}{w:Value}(h:bw Z (.list sz fl rows) w)(hs:ow size sz rows=true):bw Z (.list size fl rows) w:=by
 rcases Hq hs with rfl|rfl
 ·exact h
 ·exact h.Cw
theorem JR{Z:Fz}{sz:Nat}{fl:Fl}{rows:Lq}{w:Value}(h:bw Z (.list sz fl rows) w):∀r∈rows,r.length=sz:=by
 cases h;assumption
theorem Uh{P:Program}{e:TypeId}{size bytes zl:Nat}(h:(P.info? e).map (λi=>(i.size,i.bytes,i.zero.map λz=>z.cells.toList.length))=some (size,bytes,some zl)):
  ∃zero:List Value,(P.info? e).map (λi=>(i.size,i.bytes,i.zero.map λz=>z.cells.toList))=some (size,bytes,some zero)/\zero.length=zl:=by
 cases hi:P.info? e with
 |none=>rw[hi]at h;cases h
 |some i=>
  rw[hi]at h
  simp only[Option.map_some,Option.some.injEq,Prod.mk.injEq]at h
  obtain⟨h1,h2,h3⟩:=h
  cases hz:i.zero with
  |none=>rw[hz]at h3;cases h3
  |some z=>
   rw[hz]at h3
   simp only[Option.map_some,Option.some.injEq]at h3
   exact⟨z.cells.toList,by simp[h1,h2,hz],h3⟩
section
variable {E:fC} {q:Bool} {fz:List Nat} {o:Oper} {p:bn} {s:St} {μ:Mem} {u:UW} {KP:bn->Mem->Prop} {K:St->UW->Prop} {Z:Fz}
theorem I_{P:Program}{e:TypeId}{size bytes:Nat}{zero:List Value}{fl:Fl}{rows new:Lq}{fy:Fl}{xa yb:Option Addr}{n cap m NO:Nat}{KF:Fl->Mem->Prop}{KV:Value->UW->Prop}(hg:Good Z u μ)(hw:Wf u)
  (ht:(P.info? e).map (λi=>(i.size,i.bytes,i.zero.map λz=>z.cells.toList))=some (size,bytes,some zero)) (Fc:zero.length=size) (Mr:size≠0)
  (hx:bw Z (.list size fl rows) (.slice xa n cap)) (hy:bw Z (.list size fy new) (.slice yb m NO)) (h:bF q size bytes fl rows new μ KF)
  (hK:∀(Z':Fz) (μ':Mem) (iD:Fl) (v:Value) (u':UW),Ext Z μ u.heap.size Z' μ'->Good Z' u' μ'->Wf u'->u.heap.size<=u'.heap.size->(q=true->Below u.heap.size u.toWorld u'.toWorld)->bw Z' (.list size iD (rows++new)) v->KF iD μ'->KV v u'):
  Nd P e xa n cap yb m u λa n' c' u'=>KV (.slice a n' c') u':=by
 obtain⟨Uu,nH,h⟩:=h
 obtain⟨_,_,_,ex,Nz,hxc,hxs,hxf⟩:=hx.ofList
 cases ex
 obtain⟨_,_,_,ey,Ks,hyc,hys,hyf⟩:=hy.ofList
 cases ey
 obtain⟨vx,rx,lx,zx,nx⟩:=rO hg hx (λ_=>Mr)
 obtain⟨vy,ry,ly,zy,ny⟩:=rO hg hy (λ_=>Mr)
 rw[Nz,Ks]at Uu nH
 have gW:∀r∈rows++new,r.length=size:=λr hr=>(List.mem_append.1 hr).elim (JR hx r) (JR hy r)
 have Qn:new=[]↔m=0:=by
  constructor
  ·rintro rfl;simpa using Ks.symm
  ·intro h0;exact List.eq_nil_of_length_eq_zero (by omega)
 refine⟨size,bytes,zero,vx,vy,ht,zy,λhm=>?_,zx,λhn=>?_,hxc,Uu,nH,Fc,λv hv=>(ry.uU v hv).2,λtL=>?_,λiA=>?_⟩
 ·obtain⟨b,o,C,rfl,_,hr,_⟩:=ny hm;exact hr
 ·obtain⟨b,o,C,rfl,_,hr,_⟩:=nx hn;exact hr
 ·by_cases hm:m=0
  ·left
   refine⟨hm,?_⟩
   have:=Qn.2 hm
   subst this
   exact hK Z μ fl _ u hg.ext hg hw (Nat.le_refl _) (λ_=>Below.refl _ _) (by rw[List.append_nil];exact hx) h
  ·right
   refine⟨hm,?_⟩
   have bm:new≠[]:=λe=>hm (Qn.1 e)
   have h:VA q size fl rows.length new.length μ KF:=by
    unfold aaT at h
    cases new with
    |nil=>exact absurd rfl bm
    |cons r rs=>exact h
   cases fl with
   |sh=>exact h.elim
   |nr=>have:cap=n:=hxf;omega
   |nil=>obtain⟨_,h1,h2⟩:xa=none/\n=0/\cap=0:=hxf;omega
   |mS b c=>
    obtain⟨rfl,rfl⟩:xa=some ⟨b,0,none⟩/\cap=c:=hxf
    cases q with
    |true=>exact h.elim
    |false=>
     obtain⟨Ss,h⟩:=h
     show sb b (0+n*size) vy u _
     rw[Nat.zero_add]
     rw[Nz]at Ss
     have hle:n*size+m*size<=cap*size:=by rw[<- Nat.add_mul];exact Nat.mul_le_mul_right _ tL
     refine hg.grow Ss (by rw[ly];exact hle) (λw' C hC hCl g1 g2 eg hwf=>?_) hw
     have YY:vx=C:=by
      by_cases wu:n=0
      ·rw[zx wu];exact(List.eq_nil_of_length_eq_zero (by rw[hCl,wu];simp)).symm
      ·obtain⟨b',o',C',e1,e2,_,e4⟩:=nx wu
       simp only[Option.some.injEq,Addr.mk.injEq]at e1
       obtain⟨rfl,rfl,_⟩:=e1
       rw[hC]at e2;cases e2
       rw[e4,List.drop_zero,<- hCl,List.take_length]
     have alR:(μ.set b none).set b (some (.mS ((rows.length+new.length)*size) (cap*size)))=μ.set b (some (.mS (n*size+vy.length) (cap*size))):=by
      funext x
      by_cases e:x=b
      ·subst e;simp[Nz,Ks,ly,Nat.add_mul]
      ·rw[Mem.aw _ _ e,Mem.aw _ _ e,Mem.aw _ _ e]
     have hk:=h b cap (.inl rfl) (by rw[Nz,Ks];exact tL)
     rw[alR]at hk
     refine hK _ _ _ _ _ g2 g1 hwf eg (λh=>by cases h) ?_ hk
     have Ag:=n_ (Z:=Z.set b (C++vy)) (sz:=size) (fl:=.mS b cap) (rows:=rows++new) (vs:=vx++vy) (b:=b) (o:=0) (c:=cap) (C:=C++vy) gW (by rw[List.flatten_append];exact(rx.mono g2.le).append (ry.mono g2.le)) (Fz.ai _ _ _) (λk _=>by rw[YY,Nat.zero_add]) (by rw[List.length_append,Nz,Ks];exact tL) ⟨rfl,rfl⟩
     rw[List.length_append,Nz,Ks]at Ag
     exact Ag
 ·intro c b rest w' hc Ag hB
  have hm:m≠0:=by omega
  have bm:new≠[]:=λe=>hm (Qn.1 e)
  have h:VA q size fl rows.length new.length μ KF:=by
   unfold aaT at h
   cases new with
   |nil=>exact absurd rfl bm
   |cons r rs=>exact h
  have hlen:(vx++vy).length=(rows.length+new.length)*size:=by rw[List.length_append,lx,ly,Nz,Ks,Nat.add_mul]
  obtain⟨g1,g2,g3⟩:=hg.aeU hB (C:=vx++vy) (List.prefix_append _ _) (m:=c*size) (by
   simp only[List.size_toArray,List.length_append,lx,ly,Ag]
   rw[<- Nat.add_mul,<- Nat.add_mul];exact Nat.mul_le_mul_right _ (by omega))
  rw[hlen]at g1 g2
  have dA:bw (Z.set b (vx++vy)) (.list size (.mS b c) (rows++new)) (.slice (some ⟨b,0,none⟩) (n+m) c):=by
   have hr:=n_ (Z:=Z.set b (vx++vy)) (sz:=size) (fl:=.mS b c) (rows:=rows++new) (vs:=vx++vy) (b:=b) (o:=0) (c:=c) (C:=vx++vy) gW (by rw[List.flatten_append];exact(rx.mono g2.le).append (ry.mono g2.le)) (Fz.ai _ _ _) (λk _=>by rw[Nat.zero_add]) (by rw[List.length_append,Nz,Ks];exact hc) ⟨rfl,rfl⟩
   rw[List.length_append,Nz,Ks]at hr
   exact hr
  cases fl with
  |sh=>exact h.elim
  |nr=>exact hK _ _ _ _ _ g2 g1 (hw.born hB) hB.below.size (λ_=>hB.below) dA (h b c g3 (by rw[Nz,Ks];exact hc))
  |nil=>exact hK _ _ _ _ _ g2 g1 (hw.born hB) hB.below.size (λ_=>hB.below) dA (h b c g3 (by rw[Nz,Ks];exact hc))
  |mS b0 c0=>
   cases q with
   |true=>exact h.elim
   |false=>
    obtain⟨_,h⟩:=h
    have Ul:((μ.set b0 none).set b (some (Ob.mS ((rows.length+new.length)*size) (c*size)))).sub (μ.set b (some (Ob.mS ((rows.length+new.length)*size) (c*size)))):=by
     intro x ob hx
     by_cases e:x=b
     ·subst e;rw[Mem.ai]at hx |-;exact hx
     ·rw[Mem.aw _ _ e]at hx |-
      by_cases e':x=b0
      ·subst e';rw[Mem.ai]at hx;cases hx
      ·rw[Mem.aw _ _ e']at hx;exact hx
    exact hK _ _ _ _ _ (g2.sub Ul) (g1.sub Ul) (hw.born hB) hB.below.size (λ_=>hB.below) dA (h b c (.inr g3) (by rw[Nz,Ks];exact hc))
theorem IZ{P:Program}{e:TypeId}{size bytes:Nat}{zero:List Value}{y:PV}{xa yb:Option Addr}{n cap m NO:Nat}{KR:Option Addr->Nat->Nat->Mem->Prop}{KV:Value->UW->Prop}(hg:Good Z u μ)(hw:Wf u)
  (ht:(P.info? e).map (λi=>(i.size,i.bytes,i.zero.map λz=>z.cells.toList))=some (size,bytes,some zero)) (Fc:zero.length=size) (Mr:size≠0)
  (hy:bw Z y (.slice yb m NO)) (h:iw size bytes e xa n cap y μ KR)
  (hK:∀(μ':Mem) (a':Option Addr) (n' c':Nat) (u':UW),Ext Z μ u.heap.size Z μ'->Good Z u' μ'->Wf u'->u.heap.size<=u'.heap.size->KR a' n' c' μ'->KV (.slice a' n' c') u'):
  Nd P e xa n cap yb m u λa n' c' u'=>KV (.slice a n' c') u':=by
 unfold iw Ab at h
 obtain⟨vy,new,lR,zy,ny,Uu,nH,hnc,h,DH⟩:∃(vy:List Value) (new:List PV),bK Z new vy/\(m=0->vy=[])/\(m≠0->bR yb λb o=>rd u.heap b o (m*size)=some vy)/\(n+m)*bytes<=140737488355328/\n+m<4611686018427387904/\n<=cap/\((m=0/\(n≠0->∃b o qZ,xa=some ⟨b,o,none⟩/\aN μ b o (n*size)=some qZ)/\KR xa n cap μ)\/(m≠0/\aE new=true/\
  (n+m<=cap->∃b o T cs,xa=some ⟨b,o,none⟩/\μ b=some (.cells T cs)/\o+cap*size<=cs.length/\KR xa (n+m) cap (μ.set b (some (.cells T (ei cs (o+n*size) new)))))/\
  (cap<n+m->∃qZ,((n=0/\qZ=[])\/∃b o,xa=some ⟨b,o,none⟩/\aN μ b o (n*size)=some qZ)/\∀b' c',μ b'=none->n+m<=c'->KR (some ⟨b',0,none⟩) (n+m) c' (μ.set b' (some (.cells e (qZ++new++List.replicate ((c'-(n+m))*size) .au)))))))/\(m≠0->vy.length=m*size):=by
  split at h
  ·rename_i sz fl rows
   obtain⟨eg,h⟩:=ak h
   have YX:=hy.size eg
   obtain⟨_,_,_,ey,Ks,_⟩:=YX.ofList
   cases ey
   rw[Ks]at h
   obtain⟨vy,ry,ly,zy,ny⟩:=rO hg YX (λ_=>Mr)
   exact⟨vy,_,ry.m,zy,λhm=>by obtain⟨b,o,C,rfl,_,hr,_⟩:=ny hm;exact hr,h.1,h.2.1,h.2.2.1,h.2.2.2,λ_=>ly⟩
  ·rename_i b o m' c'
   have ev:=hy.ofRaw.1
   simp only[Value.slice.injEq]at ev
   obtain⟨rfl,rfl,rfl⟩:=ev
   obtain⟨cs,qx,h⟩:=h
   obtain⟨vs,hv,hm⟩:=pW hg qx
   have DH:=Hf hv
   refine⟨vs,cs,hm,λh0=>?_,λ_=>hv,h.1,h.2.1,h.2.2.1,h.2.2.2,λ_=>DH⟩
   rw[h0]at DH
   exact List.eq_nil_of_length_eq_zero (by simpa using DH)
  ·rename_i c'
   have ev:=hy.ofRaw.1
   simp only[Value.slice.injEq]at ev
   obtain⟨rfl,rfl,rfl⟩:=ev
   exact⟨[],[],bK.nil Z,λ_=>rfl,λh=>absurd rfl h,h.1,h.2.1,h.2.2.1,h.2.2.2,λh=>absurd rfl h⟩
  ·exact h.elim
 rcases h with⟨hm,hold,hk⟩|⟨hm,lT,gp,dH⟩
 ·by_cases hn:n=0
  ·refine⟨size,bytes,zero,[],vy,ht,zy,ny,λ_=>rfl,λh=>absurd hn h,hnc,Uu,nH,Fc,λv hv=>?_,λ_=>.inl ⟨hm,hK μ xa n cap u hg.ext hg hw (Nat.le_refl _) hk⟩,λbB=>by omega⟩
   rw[zy hm]at hv;cases hv
  ·obtain⟨b,o,qZ,rfl,eF⟩:=hold hn
   obtain⟨vs,hv,_⟩:=pW hg eF
   refine⟨size,bytes,zero,vs,vy,ht,zy,ny,λh=>absurd h hn,λ_=>hv,hnc,Uu,nH,Fc,λv hv=>?_,λ_=>.inl ⟨hm,hK μ _ n cap u hg.ext hg hw (Nat.le_refl _) hk⟩,λbB=>by omega⟩
   rw[zy hm]at hv;cases hv
 ·have hc:=lR.c lT
  have DH:=DH hm
  have Zh:new.length=m*size:=by rw[<- hc.1,DH]
  by_cases tL:n+m<=cap
  ·obtain⟨b,o,T,cs,rfl,hmb,eg,hk⟩:=gp tL
   obtain⟨hp,_,A,hA,hcA⟩:=hg.mem b _ hmb
   have Uz:A.size=cs.length:=by have:=hcA.1;simpa using this
   have hle:n*size+m*size<=cap*size:=by rw[<- Nat.add_mul];exact Nat.mul_le_mul_right _ tL
   refine⟨size,bytes,zero,if n=0 then[]else(A.toList.drop o).take (n*size),vy,ht,zy,ny,λh=>by simp[h],λh=>?_,hnc,Uu,nH,Fc,λv hv=>(hc.uU v hv).2,λ_=>.inr ⟨hm,?_⟩,λbB=>by omega⟩
   ·rw[if_neg h];exact xV hA (by omega)
   ·exact hg.store hmb (by rw[Zh];omega) lR λw' hs g1 g2=>hK _ _ _ _ _ g2 g1 (hw.Gz hs) hs.size hk
  ·obtain⟨qZ,hold,hk⟩:=dH (by omega)
   have fin:∀vs:List Value,bK Z qZ vs->vs.length=n*size->(n=0->vs=[])->(n≠0->bR xa λb o=>rd u.heap b o (n*size)=some vs)->Nd P e xa n cap yb m u λa n' c' u'=>KV (.slice a n' c') u':=by
    intro vs vc apa h0 h1
    refine⟨size,bytes,zero,vs,vy,ht,zy,ny,h0,h1,hnc,Uu,nH,Fc,λv hv=>(hc.uU v hv).2,λh=>absurd h tL,λ_ c b rest w' Bo Ag hB=>?_⟩
    have kK:bK Z (List.replicate ((c-(n+m))*size) .au) rest:=⟨by simp[Ag],λi p v hp _=>by
     rw[List.getElem?_replicate]at hp
     split at hp
     ·cases hp;exact .au _
     ·cases hp⟩
    obtain⟨g1,g2,g3⟩:=hg.born hB (cs:=qZ++new++List.replicate ((c-(n+m))*size) .au) ((vc.append lR).append kK)
    exact hK _ _ _ _ _ g2 g1 (hw.born hB) hB.below.size (hk b c g3 Bo)
   rcases hold with⟨hn,rfl⟩|⟨b,o,rfl,eF⟩
   ·exact fin [] (bK.nil Z) (by simp[hn]) (λ_=>rfl) (λh=>absurd hn h)
   ·obtain⟨vs,hv,nv⟩:=pW hg eF
    have hl:=Hf hv
    exact fin vs nv hl (λh0=>List.eq_nil_of_length_eq_zero (by rw[hl,h0];simp)) (λ_=>hv)
theorem Ni{P:Program}{e:TypeId}{x y:PV}{xa yb:Option Addr}{n cap m NO:Nat}{KP:Kq}{KV:Value->UW->Prop}(hg:Good Z u μ)(hw:Wf u)(hx:bw Z x (.slice xa n cap))(hy:bw Z y (.slice yb m NO))(h:BH P q e x y μ KP)(hK:Li q Z μ u KP KV):
  Nd P e xa n cap yb m u λa n' c' u'=>KV (.slice a n' c') u':=by
 unfold BH at h
 split at h
 ·rename_i size bytes zl hti
  obtain⟨hc,h⟩:=ak h
  simp only[Bool.and_eq_true,beq_iff,Bool.not_eq_true']at hc
  obtain⟨zero,ht,Fc⟩:=Uh hti
  have Mr:size≠0:=λe=>by
   have:=hc.2;rw[e]at this;cases this
  split at h
  ·rename_i sz fl rows Te iD new
   obtain⟨qx,h⟩:=ak h
   simp only[Bool.and_eq_true]at qx
   exact I_ hg hw ht (Fc.trans hc.1) Mr (hx.size qx.1) (hy.size qx.2) h λZ' μ' iD v u' e1 e2 e3 e4 e5 e6 e7=>hK Z' μ' _ v u' e1 e2 e3 e4 e5 e6 e7
  ·rename_i a n' c'
   have ev:=hx.ofRaw.1
   simp only[Value.slice.injEq]at ev
   obtain⟨rfl,rfl,rfl⟩:=ev
   cases q with
   |true=>exact h.elim
   |false=>
    simp only[cond_false]at h
    exact IZ hg hw ht (Fc.trans hc.1) Mr hy h λμ' a' n' c' u' e1 e2 e3 e4 e5=>hK Z μ' _ _ u' e1 e2 e3 e4 (λh=>by cases h) (.raw _ rfl rfl) e5
  ·exact h.elim
 ·exact h.elim
theorem AK{r:Bool}{x:PV}{v:Value}(h:bw Z x v):bw Z (nN r x) v:=by
 unfold nN
 cases r with
 |false=>exact h
 |true=>
  simp only[cond_true]
  split
  ·obtain⟨a,n,c,rfl,_,_,_,hf⟩:=h.ofList
   obtain⟨rfl,rfl,rfl⟩:=hf
   exact .raw _ rfl rfl
  ·exact h
theorem AW{fU:List Nat}{k:Nat}:∀{cs:List PV} {vs:List Value} (i:Nat),aY Z cs vs->aY Z (xX fU k i cs) vs
 |[],vs,i,h=>h
 |c::cs,vs,i,h=>by
  obtain⟨v,fu,rfl,hc,hv,hs⟩:=h.inv
  refine aY.cons ?_ (AK hv) (AW (i+1) hs)
  unfold nN
  cases bA fU k||bA fU (2000000+1000*k+i)with
  |false=>exact hc
  |true=>
   simp only[cond_true]
   split
   ·rfl
   ·exact hc
theorem oa{fU:List Nat}{k:Option Nat}{cs:List PV}{vs:List Value}(h:aY Z cs vs):aY Z (qp fU k cs) vs:=by
 cases k with
 |none=>exact h
 |some k=>exact AW 0 h
theorem MP{P:Program}{r:Bool}{t:TypeId}{F:Kq}{G:Value->Prop}{pp:PV}{v:Value}{μ':Mem}{Z':Fz}(hp:bw Z' pp v)(h:yT P r t λp'=>pp=p'/\F p' μ')(hG:F pp μ'->G v):NH P t λv'=>v=v'/\G v':=by
 obtain⟨p',⟨rfl,hF⟩,hex⟩:=MQ (Z:=Z') h
 exact hex hp ⟨rfl,hG hF⟩
theorem JA{q:Bool}{KP:bn->Mem->Prop}{K:St->UW->Prop}(hr:cz Z p s)(hK:sM q Z μ u KP K)(r:Bool)(t:TypeId):Li q Z μ u (λv μ'=>yT E.P r t λv'=>v=v'/\KP (aZ o p v') μ') (λv u'=>NH E.er.P t λv'=>v=v'/\K (fin o s v') u'):=
 λZ' μ' pp v u' e1 e2 e3 e4 e5 e6 e7=>MP (F:=λp' μ'=>KP (aZ o p p') μ') (G:=λv'=>K (fin o s v') u') e6 e7 λhk=>hK Z' _ μ' _ u' ((hr.mono e1.le).fin o e6) e2 e3 e1 e4 e5 hk
theorem iS(hr:cz Z p s)(hg:Good Z u μ)(hw:Wf u)(hK:sM q Z μ u KP K)(h:V1 E q fz o p μ KP):W1 E.er fz o s u K:=by
 have hK0:∀p' s',cz Z p' s'->KP p' μ->K s' u:=λp' s' h1 h2=>hK Z p' μ s' u h1 hg hw hg.ext (Nat.le_refl _) (λ_=>Below.refl _ _) h2
 by_cases ir:aV o=true
 ·cases hl:mB o with
  |false=>exact Dm hr ir hl hK0 h
  |true=>exact rN hr hg (Fz.le.refl Z) (.inr hg) hl hK0 h
 ·unfold aV at ir
  unfold V1 at h
  unfold W1
  simp only at h |-
  cases zO:o.op<;>simp only[zO]at h ir |- <;>first|(exact absurd trivial ir)|(exact h.elim)|skip
  case alloc t=>
   cases hz:(E.P.info? t).bind (·.zero)with
   |none=>rw[hz]at h;exact h.elim
   |some z=>
    rw[hz]at h
    have nE:(E.er.P.info? t).bind (·.zero)=some z:=hz
    rw[nE]
    obtain⟨aD,h⟩:=ak h
    have dA:bw Z (hU (aT E) E.P t z) z:=uG
    exact ym hr hg hw hK (oa (dA.cells aD)) h
  case box t x=>
   obtain⟨aD,h⟩:=ak h
   have hx:=hr.ev (m:=aT E) x
   rw[hx.plain aD]
   simp only[cond_true]
   have dA:=hx.b_ (P:=E.P) (t:=t)
   exact ym hr hg hw hK (oa (dA.cells (by rw[mu];exact aD))) h
  case buildSlice t len ps=>
   obtain⟨hc,h⟩:=ak h
   simp only[Bool.and_eq_true]at hc
   have q_:(ps.toList.all λp=>plain (ev s.σ p.2))=true:=by
    rw[List.all_eq_true]
    exact λx hx=>(hr.ev (m:=aT E) x.2).plain (List.all_eq_true.1 hc.1 x hx)
   rw[q_,hc.2]
   simp only[Bool.and_self,cond_true]
   cases he:oW E.P t with
   |none=>rw[he]at h;exact h.elim
   |some e=>
    rw[he]at h
    have zQ:oW E.er.P t=some e:=he
    rw[zQ]
    simp only at h |-
    split at h
    ·rename_i rows hb
     obtain⟨w,hwl,dA,hl,Ag⟩:=zo (Z:=Z) (vs:=ps.toList.map λp=>(p.1,ev s.σ p.2)) (by simp) (λi x y a b=>by
      rw[List.getElem?_map]at a b
      cases hi:ps.toList[i]? with
      |none=>rw[hi]at a;cases a
      |some z=>
       rw[hi]at a b
       simp only[Option.map_some,Option.some.injEq]at a b
       subst a;subst b
       exact⟨rfl,by rw[mu];exact List.all_eq_true.1 hc.1 z (List.mem_of_getElem? hi),(hr.ev (m:=aT E) z.2).b_⟩) hb
     have akp:mJ (E.er.P.cellsOf e) 0 (ps.toList.map λp=>(p.1,ev s.σ p.2))=some w:=hwl
     rw[akp]
     obtain⟨hc2,h⟩:=ak h
     have alk:(Nat.ble w.length 65536&&((E.er.P.info? e).bind (·.zero)).isSome&& !Nat.beq (E.er.P.cellsOf e) 0)=true:=by rw[dA.1];exact hc2
     simp only[alk,cond_true]
     intro b w' hB
     cases hwr:acb E o with
     |true=>
      rw[hwr]at h
      obtain⟨g1,g2,g3⟩:=hg.born hB (cs:=qp E.fU o.dst rows.flatten) (oa dA).m
      exact hK Z _ _ _ _ (hr.fin o (.raw _ rfl rfl)) g1 (hw.born hB) g2 hB.below.size (λ_=>hB.below) (h b g3)
     |false=>
      rw[hwr]at h
      obtain⟨g1,g2⟩:=hg.Xa hB
      refine hK _ _ μ _ _ ((hr.mono g2.le).fin o ?_) g1 (hw.born hB) g2 hB.below.size (λ_=>hB.below) h
      have hlen:rows.length=len:=by
       have:=beq_iff.1 hc.2;rw[hl,<- this];simp
      have:=n_ (Z:=Z.set b w.toArray.toList) (sz:=E.P.cellsOf e) (fl:=.nr) (rows:=rows) (vs:=w) (b:=b) (o:=0) (c:=rows.length) (C:=w) Ag (dA.mono g2.le) (Fz.ai _ _ _) (λk _=>by rw[Nat.zero_add]) (Nat.le_refl _) rfl
      rw[hlen]at this
      exact this
    ·exact h.elim
  case store t x y=>
   obtain⟨hc,h⟩:=ak h
   simp only[Bool.and_eq_true,beq_iff]at hc
   have hy:=hr.ev (m:=aT E) y
   have hx:=hr.ev (m:=aT E) x
   have dA:=(hy.b_ (P:=E.P) (t:=t)).cells (by rw[mu];exact hc.1.1)
   have eg:(ev s.σ y).cells.size=(b_ E.P t (cp (aT E) p.σ y)).cells.length:=by have:=dA.1;simpa using this
   have Bo:(plain (ev s.σ y)&&Nat.beq (ev s.σ y).cells.size (E.er.P.cellsOf t)&&dy (ev s.σ y).cells.toList&&(E.er.P.info? t).isSome)=true:=by
    have h2:(E.er.P.info? t).isSome=true:=hc.2
    rw[hy.plain hc.1.1,eg,hc.1.2,iP dA,h2]
    have:Nat.beq (E.P.cellsOf t) (E.er.P.cellsOf t)=true:=Nat.beq_refl _
    rw[this];rfl
   rw[Bo]
   simp only[cond_true]
   split at h
   ·rename_i k off he
    rw[he]at hx;rw[hx.vZ]
    simp only
    rw[<- hr.D]
    split at h
    ·rename_i m hm
     rw[hm]
     simp only
     obtain⟨hb,h⟩:=ak h
     rw[eg,hb]
     simp only[cond_true]
     exact hK0 {p with σ:=Hi (xz p.σ k off (b_ E.P t (cp (aT E) p.σ y)).cells) o.dst (.aC [])} _ ⟨rfl,dY.put (dY.pH hr.slot dA.m) (bj.qQ (vs:=[]) (bj.nil Z))⟩ h
    ·exact h.elim
   ·cases q with
    |true=>exact h.elim
    |false=>
     simp only[cond_false]at h
     unfold bD at h
     split at h
     ·rename_i b off he
      rw[he]at hx
      rw[hx.ofRaw.1]
      show cX (.pointer (some ⟨b,off,none⟩)) _
      unfold cX
      simp only
      obtain⟨T,cs,hm,hl,h⟩:=h
      exact hg.store hm hl (oa dA).m λw' hs g1 g2=>hK Z _ _ _ _ (hr.fin o (bj.qQ (vs:=[]) (bj.nil Z))) g1 (hw.Gz hs) g2 hs.size (λh=>by cases h) h
     ·exact h.elim
  case makeSlice t x y=>
   have hx:=hr.ev (m:=aT E) x
   have hy:=hr.ev (m:=aT E) y
   split at h
   ·rename_i e k i k' j hu he hj
    have dZ:E.er.P.underlying t=some (.slice e):=hu
    rw[he]at hx;rw[hj]at hy
    rw[dZ,hx.ofRaw.1,hy.ofRaw.1]
    simp only
    cases hi:E.P.info? e with
    |none=>rw[hi]at h;exact h.elim
    |some inf=>
     rw[hi]at h
     have wQ:E.er.P.info? e=some inf:=hi
     rw[wQ]
     simp only[Option.map_some]at h |-
     cases hz:inf.zero with
     |none=>rw[hz]at h;exact h.elim
     |some z=>
      rw[hz]at h
      simp only[Option.map_some]at h |-
      obtain⟨hc,g1,g2,g3,g4,h⟩:=ak h
      simp only[Bool.and_eq_true,beq_iff]at hc
      have dA:bw Z (hU (aT E) E.P e z) z:=uG
      have hrc:aY Z (hU (aT E) E.P e z).cells z.cells.toList:=by
       cases hk:(hU (aT E) E.P e z).ok with
       |true=>exact dA.cells hk
       |false=>
        exfalso
        have h3:=hc.2
        cases hzp:hU (aT E) E.P e z<;>rw[hzp]at hk h3<;>simp[PV.ok,PV.cell,PV.cells,aE]at hk h3
      have jN:(Nat.beq z.cells.toList.length inf.size&& !Nat.beq inf.size 0)=true:=by
       rw[hrc.1,hc.1.1,hc.1.2];simp
      rw[jN]
      simp only[cond_true]
      refine⟨g1,g2,g3,g4,λb w' hB=>?_⟩
      have Ms:∀n:Nat,bK Z (List.replicate n (hU (aT E) E.P e z).cells).flatten (List.replicate n z.cells.toList).flatten:=by
       intro n
       induction n with
       |zero=>exact bK.nil Z
       |succ n ih=>rw[List.replicate_succ,List.replicate_succ,List.flatten_cons,List.flatten_cons];exact hrc.m.append ih
      obtain⟨d1,d2,d3⟩:=hg.born hB (cs:=(List.replicate j.toNat (hU (aT E) E.P e z).cells).flatten) (Ms _)
      exact hK Z _ _ _ _ (hr.fin o (.raw _ rfl rfl)) d1 (hw.born hB) d2 hB.below.size (λ_=>hB.below) (h b d3)
   ·exact h.elim
  case call c=>
   obtain⟨UY,args,Xc⟩:=c
   cases UY with
   |builtin b=>
    simp only at h ir |-
    unfold Xd at h
    unfold W1b
    generalize args.toList=al at h |-
    generalize Xc.toList=tl at h |-
    cases b<;>first|(exact absurd rfl ir)|(exact h.elim)|skip
    match al,tl,h with
    |[x,y],[t,t'],h=>
     simp only at h |-
     have hx:=AK (r:=uQ E o) (hr.ev (m:=aT E) x)
     have hy:=hr.ev (m:=aT E) y
     split at h
     ·rename_i e e' hu Mo
      have dZ:E.er.P.underlying t=some (.slice e):=hu
      have Y_:E.er.P.underlying t'=some (.slice e'):=Mo
      rw[dZ,Y_]
      have sl:∀{pp:PV} {v:Value},bw Z pp v->(∃sz fl rows,pp=.list sz fl rows)\/(∃a n c,pp=.raw (.slice a n c))->∃a n c,v=.slice a n c:=by
       rintro pp v hv (⟨sz,fl,rows,rfl⟩|⟨a,n,c,rfl⟩)
       ·obtain⟨a,n,c,rfl,_⟩:=hv.ofList;exact⟨a,n,c,rfl⟩
       ·exact⟨a,n,c,hv.ofRaw.1⟩
      have hsh:((∃sz fl rows,nN (uQ E o) (cp (aT E) p.σ x)=.list sz fl rows)\/(∃a n c,nN (uQ E o) (cp (aT E) p.σ x)=.raw (.slice a n c)))/\((∃sz fl rows,cp (aT E) p.σ y=.list sz fl rows)\/(∃a n c,cp (aT E) p.σ y=.raw (.slice a n c))):=by
       unfold BH at h
       split at h
       ·obtain⟨_,h⟩:=ak h
        split at h
        ·rename_i e1 e2;exact⟨.inl ⟨_,_,_,e1⟩,.inl ⟨_,_,_,e2⟩⟩
        ·rename_i e1
         refine⟨.inr ⟨_,_,_,e1⟩,?_⟩
         cases q with
         |true=>exact h.elim
         |false=>
          simp only[cond_false]at h
          unfold iw Ab at h
          split at h
          ·rename_i e2;exact .inl ⟨_,_,_,e2⟩
          ·rename_i e2;exact .inr ⟨_,_,_,e2⟩
          ·rename_i e2;exact .inr ⟨_,_,_,e2⟩
          ·exact h.elim
        ·exact h.elim
       ·exact h.elim
      obtain⟨xa,n,cap,hxv⟩:=sl hx hsh.1
      obtain⟨yb,m,yc,hyv⟩:=sl hy hsh.2
      rw[hxv,hyv]
      rw[hxv]at hx;rw[hyv]at hy
      simp only
      exact Ni (KV:=λv u'=>K (fin o s v) u') hg hw hx hy h λZ' μ' pp v u' e1 e2 e3 e4 e5 e6 e7=>hK Z' _ μ' _ u' ((hr.mono e1.le).fin o e6) e2 e3 e1 e4 e5 e7
     ·exact h.elim
    |[],_,h=>exact h.elim
    |[_],_,h=>exact h.elim
    |[_,_],[],h=>exact h.elim
    |[_,_],[_],h=>exact h.elim
    |[_,_],_::_::_::_,h=>exact h.elim
    |_::_::_::_,_,h=>exact h.elim
   |value f=>
    simp only at h |-
    obtain⟨hc,h⟩:=ak h
    rw[jw hr hc]
    simp only[cond_true]
    exact zL.v hg hw (hr.ev (m:=aT E) f) (Gj hr hc).jV h (JA (E:=E) hr hK (uQ E o) o.type)
   |invoke x name=>
    simp only at h |-
    obtain⟨hc,h⟩:=ak h
    rw[jw hr hc]
    simp only[cond_true]
    have hx:=hr.ev (m:=aT E) x
    split at h
    ·rename_i t pp he
     rw[he]at hx
     cases YY:ev s.σ x with
     |iface t' v=>
      rw[YY]at hx
      cases hx with
      |iface _ _ _ hk hv=>
       simp only
       split at h
       ·rename_i g r' hm
        obtain⟨d_,h⟩:=h
        have Kx:pv E.er.P (method (E.er.P.types.size+Made.depth) t v name)=some (g,v):=d_ v
        rw[Kx]
        simp only
        have:=zL.v (fv:=.func (.func g) #[] #[]) (vs:=v::args.toList.map (ev s.σ)) hg hw (bj.DW (fv:=[]) (cv:=[]) (bj.nil Z) (bj.nil Z)) (bj.cons (by rw[GK];exact hk) hv.zM (Gj hr hc).jV) h (JA (E:=E) hr hK (uQ E o) o.type)
        have h2:(bif ct E.P g then mg E.P g ((#[]:Array Value).toList++(v::args.toList.map (ev s.σ))++(#[]:Array Value).toList).toArray u (λv u'=>NH E.er.P o.type λv'=>v=v'/\K (fin o s v') u')else False):=this
        obtain⟨gu,h3⟩:=ak h2
        have alj:ct E.er.P g=true:=gu
        rw[alj]
        simp only[cond_true]
        show mg E.P g _ u _
        simpa using h3
       ·exact h.elim
     |_=>rw[YY]at hx;cases hx
    ·exact h.elim
end
section
variable {E:fC} {fz:List Nat} {ops:Array Oper}
theorem sM.step{Z Z1:Fz}{μ μ1:Mem}{u u1:UW}{KP:bn->Mem->Prop}{K:St->UW->Prop}(h:sM false Z μ u KP K)(e:Ext Z μ u.heap.size Z1 μ1)(hN:u.heap.size<=u1.heap.size):sM false Z1 μ1 u1 KP K:=
 λZ' p' μ' s' u' r g w e' n _ k=>h Z' p' μ' s' u' r g w (e.trans e' hN) (Nat.le_trans hN n) (λh=>by cases h) k
theorem ic(Z:Fz):bw Z (.aC []) undef:=bj.qQ (vs:=[]) (bj.nil Z)
theorem Jb{E:Env}{fz:List Nat}{o:Oper}{s:St}{u:UW}{K:St->UW->Prop}(h:W1 E fz o s u K):Sa E fz o s u K:=by
 unfold Sa
 split
 ·rename_i t x y t' ho
  cases hb:tX (ev s.σ x) (ev s.σ y)with
  |false=>exact h
  |true=>
   exfalso
   unfold W1 at h
   simp only[ho]at h
   unfold tX at hb
   split at hb
   ·rename_i a1 a2 e1 e2
    rw[e1,e2]at h
    exact h
   ·cases hb
 ·exact .inl h
 ·exact h
theorem oX:∀{rows:Lq} {ns:List Int},mI rows=some ns->rows=ns.map λn=>[.raw (.int .u8 n)]
 |[],ns,h=>by simp only[mI,Option.some.injEq]at h;subst h;rfl
 |r::l,ns,h=>by
  unfold mI at h
  split at h
  ·rename_i e;cases e
  ·rename_i n l' e
   simp only[List.cons.injEq]at e
   obtain⟨rfl,rfl⟩:=e
   split at h
   ·rename_i ms hm
    cases h
    rw[oX hm];rfl
   ·cases h
  ·cases h
theorem IQ{Z:Fz}{cs:List PV}{vs:List Value}{ns:List Int}(hm:bK Z cs vs)(h:mI (cs.map λc=>[c])=some ns):vs=ns.map (Value.int .u8):=by
 have hc:cs=ns.map λn=>PV.raw (.int .u8 n):=by
  have:=congrArg (List.map λr:List PV=>r.headD .au) (oX h)
  simpa[List.map_map,Function.comp_def]using this
 subst hc
 have hl:vs.length=ns.length:=by have:=hm.1;simpa using this
 refine List.ext_getElem? λi=>?_
 cases hn:ns[i]? with
 |none=>
  have h1:ns.length<=i:=List.getElem?_eq_none_iff.1 hn
  rw[List.getElem?_eq_none_iff.2 (by omega),List.getElem?_eq_none_iff.2 (by simp;omega)]
 |some n=>
  have h1:=(List.getElem?_eq_some_iff.1 hn).1
  cases hv:vs[i]? with
  |none=>have:=List.getElem?_eq_none_iff.1 hv;omega
  |some v=>
   have h2:=hm.2 i (.raw (.int .u8 n)) v (by simp[hn]) hv
   rw[h2.ofRaw.1];simp[hn]
theorem GV{Z:Fz}{u:UW}{μ:Mem}(hg:Good Z u μ){sz:Nat}{f:Fl}{rows:Lq}{v:Value}(hx:bw Z (.list sz f rows) v){P:Program}{src dst:TypeId}{K K':ByteArray->Prop}(h:mi P src dst sz rows K)(hK:∀s,K s->K' s):OH P src dst v u K':=by
 unfold mi at h
 obtain⟨hc0,hm⟩:=ak h
 clear h
 simp only[Bool.and_eq_true,Bool.not_eq_true']at hc0
 obtain⟨⟨h1,h2⟩,h3⟩:=hc0
 split at hm
 ·rename_i ns NB
  cases hx with
  |list sz fl rows a n c b o C g hn hc hs zN ha Fu hk hp hf=>
   have eg:sz=1:=Nat.eq_of_beq_eq_true h1
   subst eg
   have wu:n≠0:=by
    intro e
    rw[e]at hn
    rw[List.eq_nil_of_length_eq_zero hn]at h3
    cases h3
   obtain⟨rfl,hZ⟩:=ha wu
   obtain⟨A,T,ff,hA,wP⟩:=hg.DN b C hZ
   have wq:=oX NB
   have hlen:ns.length=n:=by rw[<- hn,wq,List.length_map]
   have lT:∀i,i<n->A.toList[o+i]?=(ns.map (Value.int .u8))[i]?:=λi hi=>by
    have wQ:i<ns.length:=by omega
    have e1:rows[i]?=some [.raw (.int .u8 ns[i])]:=by rw[wq,List.getElem?_map,List.getElem?_eq_getElem wQ];rfl
    have e2:=Fu i 0 hi (by omega)
    have e3:=(hp i 0 _ _ e1 rfl).ofRaw.1
    rw[show o+i*1+0=o+i from by omega]at e2
    rw[rJ wP e2,e3,List.getElem?_map,List.getElem?_eq_getElem wQ];rfl
   refine⟨h2,wu,ns,?_,hK _ hm⟩
   have hle:o+n<=A.size:=by
    have e1:=lT (n-1) (by omega)
    have hi:n-1<(ns.map (Value.int .u8)).length:=by rw[List.length_map];omega
    have:=(List.getElem?_eq_some_iff.1 (e1.trans (List.getElem?_eq_getElem hi))).1
    rw[Array.length_toList]at this
    omega
   unfold rd
   rw[hA]
   simp only
   rw[if_pos hle]
   congr 1
   apply List.ext_getElem?
   intro i
   by_cases hi:i<n
   ·rw[List.getElem?_take_of_lt hi,List.getElem?_drop];exact lT i hi
   ·rw[List.getElem?_eq_none (by rw[List.length_take];omega),List.getElem?_eq_none (by rw[List.length_map];omega)]
 ·exact hm.elim
theorem Bj{Z:Fz}{u:UW}{μ:Mem}(hg:Good Z u μ){b:Nat}(h:Kl μ b):∃(c:Array Value) (T:TypeId),u.heap[b]?=some (.cells c T (0,0))/\c.size≠0:=by
 obtain⟨T,cs,hm,bm⟩:=h
 obtain⟨_,_,A,hA,hc⟩:=hg.mem b _ hm
 refine⟨A,T,hA,λe=>bm ?_⟩
 have:A.size=cs.length:=by have:=hc.1;simpa using this
 exact List.eq_nil_of_length_eq_zero (by omega)
theorem Nt{Z:Fz}{o:Oper}{p:bn}{s:St}{μ:Mem}{u:UW}{KP:bn->Mem->Prop}{K:St->UW->Prop}(hr:cz Z p s)(hg:Good Z u μ)(hw:Wf u)(hK:sM false Z μ u KP K)(h:Nu E fz o p μ KP):Sa E.er fz o s u K:=by
 unfold Nu at h
 split at h
 ·rename_i t x y t' ho
  cases hb:(lQ (cp (aT E) p.σ x)&&lQ (cp (aT E) p.σ (.tmp y)))with
  |true=>
   rw[hb]at h
   simp only[cond_true]at h
   obtain⟨eg,h⟩:=ak h
   unfold Pf at h
   split at h
   ·rename_i b o1 b' o2 ex ey
    obtain⟨l1,l2,h⟩:=h
    have hx:=hr.ev (m:=aT E) x;have hy:=hr.ev (m:=aT E) (.tmp y)
    rw[ex]at hx;rw[ey]at hy
    have ex':=hx.ofRaw.1;have ey':=hy.ofRaw.1
    unfold Sa
    simp only[ho]
    rw[ex',ey']
    simp only[tX,cond_true]
    unfold Hj
    simp only
    have Mq:∃e,E.P.underlying t=some (.pointer e)/\sized E.P e=true:=by
     cases hu:E.P.underlying t with
     |none=>rw[hu]at eg;cases eg
     |some d=>
      rw[hu]at eg
      cases d<;>first|(cases eg;done)|exact⟨_,rfl,eg⟩
    obtain⟨e,hu,hi⟩:=Mq
    have dZ:E.er.P.underlying t=some (.pointer e):=hu
    have wQ:sized E.er.P e=true:=hi
    rw[dZ]
    simp only
    rw[wQ]
    exact⟨Bj hg l1,Bj hg l2,hK Z _ μ _ u (hr.fin o (.raw _ rfl rfl)) hg hw hg.ext (Nat.le_refl _) (λh=>by cases h) h⟩
   ·exact h.elim
  |false=>rw[hb]at h;exact Jb (iS hr hg hw hK h)
 ·rename_i src dst x ho
  split at h
  ·rename_i sz f rows ex
   have hx:=hr.ev (m:=aT E) x
   rw[ex]at hx
   unfold Sa
   simp only[ho]
   exact .inr (GV hg hx h λs h=>hK Z _ μ _ u (hr.fin o (.raw _ rfl rfl)) hg hw hg.ext (Nat.le_refl _) (λh=>by cases h) h)
  ·rename_i b off n c ex
   have hx:=hr.ev (m:=aT E) x
   rw[ex]at hx
   have hx:=hx.ofRaw.1
   obtain⟨cs,qx,h⟩:=h
   obtain⟨vs,hv,hm⟩:=pW hg qx
   obtain⟨hb,h⟩:=ak h
   simp only[Bool.and_eq_true,Bool.not_eq_true']at hb
   split at h
   ·rename_i ns NB
    unfold Sa
    simp only[ho]
    refine .inr ?_
    rw[hx]
    have hl:=Hf hv
    have hn:n≠0:=by
     rintro rfl
     have:cs=[]:=List.eq_nil_of_length_eq_zero (by rw[<- hm.1,hl])
     subst this;simp at hb
    refine⟨hb.1.2,hn,ns,?_,hK Z _ μ _ u (hr.fin o (.raw _ rfl rfl)) hg hw hg.ext (Nat.le_refl _) (λh=>by cases h) h⟩
    rw[hv,IQ hm NB]
   ·exact h.elim
  ·exact Jb (iS hr hg hw hK h)
 ·exact Jb (iS hr hg hw hK h)
theorem t_{QP:bn->Mem->Prop}{Q:St->UW->Prop}:∀(l:List Oper) (p:bn) (s:St) (μ:Mem) (u:UW) (Z:Fz),cz Z p s->Good Z u μ->Wf u->sM false Z μ u QP Q->Vl E fz ops QP l p μ->Wl E.er fz ops Q l s u
 |[],p,s,μ,u,Z,hr,hg,hw,hC,h=>hC Z p μ s u hr hg hw hg.ext (Nat.le_refl _) (λh=>by cases h) h
 |o::l,p,s,μ,u,Z,hr,hg,hw,hC,h=>by
  have al8:∀{p1:bn} {s1:St},cz Z p1 s1->Nu E fz o p1 μ (λp' μ'=>Vl E fz ops QP l p' μ')->Sa E.er fz o s1 u (λs' u'=>Wl E.er fz ops Q l s' u'):=λZc h1=>
   Nt Zc hg hw (λZ' p' μ' s' u' r g w e n _ k=>t_ l p' s' μ' u' Z' r g w (hC.step e n) k) h1
  have act:∀{p1:bn} {s1:St},cz Z p1 s1->V1 E false fz o p1 μ (λp' μ'=>Vl E fz ops QP l p' μ')->W1 E.er fz o s1 u (λs' u'=>Wl E.er fz ops Q l s' u'):=λZc h1=>
   iS Zc hg hw (λZ' p' μ' s' u' r g w e n _ k=>t_ l p' s' μ' u' Z' r g w (hC.step e n) k) h1
  have skip:∀{p1:bn} {s1:St},cz Z p1 s1->Vl E fz ops QP l (aZ o p1 (.aC [])) μ->Wl E.er fz ops Q l (fin o s1 undef) u:=λZc h1=>
   t_ l _ _ μ u Z (Zc.fin o (ic Z)) hg hw hC h1
  simp only[Vl]at h
  simp only[Wl]
  cases hgd:o.guard with
  |none=>rw[hgd]at h;exact al8 hr h
  |some jb=>
   obtain⟨j,b⟩:=jb
   rw[hgd]at h
   simp only at h |-
   cases vd:kO ops j with
   |none=>rw[vd]at h;exact h.elim
   |some g=>
    rw[vd]at h
    simp only at h |-
    have hs:=hr.slot g
    split at h
    ·rename_i c he
     rw[he]at hs
     rw[hs.ofRaw.1]
     simp only
     have hT:cz Z {p with σ:=gS p.σ g (pB true)} {s with σ:=iz s.σ g (.bool true)}:=⟨hr.D,dY.iz hr.slot (.raw _ rfl rfl)⟩
     have hF:cz Z {p with σ:=gS p.σ g (pB false)} {s with σ:=iz s.σ g (.bool false)}:=⟨hr.D,dY.iz hr.slot (.raw _ rfl rfl)⟩
     cases c<;>cases b
     ·exact act hF h
     ·exact skip hF h
     ·exact skip hT h
     ·exact act hT h
    ·rename_i vs he
     rw[he]at hs
     obtain⟨ws,hv,_⟩:=hs.yj
     rw[hv]
     exact skip hr h
    ·exact h.elim
def SE(ops:Array Oper):gY->Prop
 | .nil=>True
 | .tk i p=>(∀o,ops[i]?=some o->aV o=true)/\SE ops p
 | .ef i p=>br ops i p=true/\SE ops p
 | .QR i p j q=>(br ops i p=true/\SE ops p)/\(br ops j q=true/\SE ops q)
 | .QO i p j q k r=>(br ops i p=true/\SE ops p)/\(br ops j q=true/\SE ops q)/\(br ops k r=true/\SE ops r)
theorem oS{af:Array Bool}:∀{l:List Nat} {i:Nat},gK ops af l=some i->∀o,ops[i]?=some o->aV o=true
 |[],i,h=>by simp[gK]at h
 |j::l,i,h=>by
  simp only[gK]at h
  intro o ho
  cases ho2:ops[j]? with
  |none=>rw[ho2]at h;exact oS h o ho
  |some oj=>
   rw[ho2]at h
   simp only at h
   cases hc:(aV oj&&Region.free .any ops af j)with
   |true=>
    rw[hc]at h
    simp only[cond_true,Option.some.injEq]at h
    subst h
    rw[ho]at ho2;cases ho2
    simp only[Bool.and_eq_true]at hc
    exact hc.1
   |false=>rw[hc]at h;exact oS h o ho
theorem iH:∀{f:Nat} {af:Array Bool} {p:gY},dt ops f af=some p->SE ops p
 |0,af,p,h=>by
  simp only[dt]at h
  split at h
  ·cases h;trivial
  ·cases h
 |f+1,af,p,h=>by
  simp only[dt]at h
  split at h
  ·cases h;trivial
  ·split at h
   ·rename_i j hj
    split at h
    ·rename_i p' hp;cases h;exact⟨oS hj,iH hp⟩
    ·cases h
   ·split at h
    ·split at h
     ·rename_i p' hp
      cases hc:br ops _ p' with
      |true=>rw[hc]at h;cases h;exact⟨hc,iH hp⟩
      |false=>rw[hc]at h;cases h
     ·cases h
    ·split at h
     ·rename_i p' q' hp hq
      cases hc:(br ops _ p'&&br ops _ q')with
      |true=>
       rw[hc]at h;cases h
       simp only[Bool.and_eq_true]at hc
       exact⟨⟨hc.1,iH hp⟩,hc.2,iH hq⟩
      |false=>rw[hc]at h;cases h
     ·cases h
    ·split at h
     ·rename_i p' q' r' hp hq hr
      cases hc:(br ops _ p'&&br ops _ q'&&br ops _ r')with
      |true=>
       rw[hc]at h;cases h
       simp only[Bool.and_eq_true]at hc
       exact⟨⟨hc.1.1,iH hp⟩,⟨hc.1.2,iH hq⟩,hc.2,iH hr⟩
      |false=>rw[hc]at h;cases h
     ·cases h
    ·cases h
theorem kN{Z:Fz}{o:Oper}{p:bn}{s:St}{ae2 VW:bn->Prop}{act skip:St->Prop}(hr:cz Z p s)(ha:∀p1 s1,cz Z p1 s1->ae2 p1->act s1)(hs:∀p1 s1,cz Z p1 s1->VW p1->skip s1)(h:fN ops o p ae2 VW):guarded ops o s act skip:=by
 unfold fN at h
 unfold guarded
 cases hgd:o.guard with
 |none=>rw[hgd]at h;exact ha _ _ hr h
 |some jb=>
  obtain⟨j,b⟩:=jb
  rw[hgd]at h
  simp only at h |-
  cases vd:kO ops j with
  |none=>rw[vd]at h;exact h.elim
  |some g=>
   rw[vd]at h
   simp only at h |-
   have DI:=hr.slot g
   split at h
   ·rename_i c he
    rw[he]at DI
    rw[DI.ofRaw.1]
    simp only
    have hT:cz Z {p with σ:=gS p.σ g (pB true)} {s with σ:=iz s.σ g (.bool true)}:=⟨hr.D,dY.iz hr.slot (.raw _ rfl rfl)⟩
    have hF:cz Z {p with σ:=gS p.σ g (pB false)} {s with σ:=iz s.σ g (.bool false)}:=⟨hr.D,dY.iz hr.slot (.raw _ rfl rfl)⟩
    cases c<;>cases b
    ·exact ha _ _ hF h
    ·exact hs _ _ hF h
    ·exact hs _ _ hT h
    ·exact ha _ _ hT h
   ·rename_i vs he
    rw[he]at DI
    obtain⟨ws,hv,_⟩:=DI.yj
    rw[hv]
    exact hs _ _ hr h
   ·exact h.elim
theorem aaY{q q':Bool}{fz ZO:List Nat}{o:Oper}{p:bn}{μ:Mem}{K:bn->Mem->Prop}(hn:oI o=true)(hp:fV E.cU o=false)(h:V1 E q fz o p μ K):V1 E q' ZO o p μ K:=by
 unfold oI at hn
 unfold fV at hp
 unfold V1 at h |-
 split at hn
 ·rename_i t ho
  simp only[ho]at h hp |-
  cases hz:(E.P.info? t).bind (·.zero)with
  |none=>rw[hz]at h;exact h.elim
  |some z=>
   rw[hz]at h
   simp only at h |-
   obtain⟨h1,h⟩:=ak h
   rw[h1]
   simp only[cond_true]
   unfold nj at h |-
   cases hd:o.dst with
   |none=>rw[hd]at h;exact h.elim
   |some k=>
    rw[hd]at h hp
    simp only at h hp |-
    rw[hp]at h |-
    exact h
 ·rename_i t x ho
  simp only[ho]at h hp |-
  obtain⟨h1,h⟩:=ak h
  rw[h1]
  simp only[cond_true]
  unfold nj at h |-
  cases hd:o.dst with
  |none=>rw[hd]at h;exact h.elim
  |some k=>
   rw[hd]at h hp
   simp only at h hp |-
   rw[hp]at h |-
   exact h
 ·rename_i t len ps ho
  simp only[ho]at h |-
  exact h
 ·cases hn
theorem EX{Z:Fz}{u0:UW}{o:Oper}{p:bn}{s:St}{μ0 μ:Mem}{u:UW}{fz:List Nat}{KP:bn->Mem->Prop}{K:St->UW->Prop}(hr:cz Z p s)(hg:Good Z u μ)(hw:Wf u)(Mz:∀b,μ b≠none->μ0 b≠none\/u0.heap.size<=b)(oN:qz u0 u)
  (hK:∀Z' p' μ' s' u',cz Z' p' s'->Good Z' u' μ'->Wf u'->Ext Z μ u.heap.size Z' μ'->u.heap.size<=u'.heap.size->qz u0 u'->KP p' μ'->K s' u')
  (h:PM E fz o p μ0 μ KP):W1 E.er fz o s u K:=by
 have base:V1 E true fz o p μ KP->W1 E.er fz o s u K:=λh1=>iS hr hg hw (λZ' p' μ' s' u' a1 a2 a3 a4 a5 a6 a7=>hK Z' p' μ' s' u' a1 a2 a3 a4 a5 (vv oN (a6 rfl)) a7) h1
 unfold PM at h
 split at h
 ·rename_i t x y ho
  split at h
  ·rename_i b off he
   obtain⟨h0,h⟩:=h
   unfold V1 at h
   unfold W1
   simp only[ho]at h |-
   obtain⟨hc,h⟩:=ak h
   simp only[Bool.and_eq_true,beq_iff]at hc
   have hy:=hr.ev (m:=aT E) y
   have hx:=hr.ev (m:=aT E) x
   have dA:=(hy.b_ (P:=E.P) (t:=t)).cells (by rw[mu];exact hc.1.1)
   have eg:(ev s.σ y).cells.size=(b_ E.P t (cp (aT E) p.σ y)).cells.length:=by have:=dA.1;simpa using this
   have Bo:(plain (ev s.σ y)&&Nat.beq (ev s.σ y).cells.size (E.er.P.cellsOf t)&&dy (ev s.σ y).cells.toList&&(E.er.P.info? t).isSome)=true:=by
    have h2:(E.er.P.info? t).isSome=true:=hc.2
    rw[hy.plain hc.1.1,eg,hc.1.2,iP dA,h2]
    have:Nat.beq (E.P.cellsOf t) (E.er.P.cellsOf t)=true:=Nat.beq_refl _
    rw[this];rfl
   rw[Bo]
   simp only[cond_true]
   rw[he]at hx h
   rw[hx.ofRaw.1]
   show cX (.pointer (some ⟨b,off,none⟩)) _
   unfold cX
   simp only
   simp only[cond_false]at h
   unfold bD at h
   simp only at h
   obtain⟨T,cs,hm,hl,h⟩:=h
   have hb:u0.heap.size<=b:=(Mz b (by rw[hm];simp)).resolve_left λhn=>hn h0
   exact hg.store hm hl (oa dA).m λw' hs g1 g2=>hK Z _ _ _ _ (hr.fin o (bj.qQ (vs:=[]) (bj.nil Z))) g1 (hw.Gz hs) g2 hs.size ⟨hs.os.trans oN.os,hs.tape.trans oN.tape,hs.output.trans oN.output,Nat.le_trans oN.size hs.size,λc hc=>(hs.ne c (by omega) (Nat.lt_of_lt_of_le hc oN.size)).trans (oN.block c hc)⟩ h
  ·exact base h
 ·exact base h
theorem eY{Z:Fz}{u0:UW}{μ0:Mem}{i:Nat}{p:bn}{s:St}{μ:Mem}{u:UW}{KP:bn->Mem->Prop}{K:St->UW->Prop}(hr:cz Z p s)(hg:Good Z u μ)(hw:Wf u)(Mz:∀b,μ b≠none->μ0 b≠none\/u0.heap.size<=b)(oN:oP ops i=true->qz u0 u)
  (hK:∀Z' p' μ' s' u',cz Z' p' s'->Good Z' u' μ'->Wf u'->Ext Z μ u.heap.size Z' μ'->u.heap.size<=u'.heap.size->(oP ops i=true->qz u0 u')->(Cz ops i=true->qz u0 u->qz u0 u')->KP p' μ'->K s' u')
  (h:nT E fz ops μ0 i p μ KP):qS E.er fz ops u0 i s u K:=by
 unfold nT at h
 unfold qS
 cases ho:ops[i]? with
 |none=>rw[ho]at h;exact h.elim
 |some o=>
  rw[ho]at h
  simp only at h |-
  have lC:fV E.er.cU o=fV E.cU o:=rfl
  rw[lC]
  cases hp:fV E.cU o with
  |true=>rw[hp]at h;exact h.elim
  |false=>
   rw[hp]at h
   simp only[cond_false]at h |-
   refine kN hr (λp1 s1 r1 h1=>?_) (λp1 s1 r1 h1=>?_) h
   ·cases hl:oP ops i with
    |true=>
     rw[hl]at h1
     simp only[cond_true]at h1 |-
     rw[r1.D]at h1
     refine EX r1 hg hw Mz (oN hl) (λZ' p' μ' s' u' a1 a2 a3 a4 a5 Af a7=>?_) h1
     exact⟨Af,hK Z' p' μ' s' u' a1 a2 a3 a4 a5 (λ_=>Af) (λ_ _=>Af) a7⟩
    |false=>
     rw[hl]at h1
     simp only[cond_false]at h1 |-
     cases hn:Cz ops i with
     |true=>
      have hnw:oI o=true:=by unfold Cz at hn;rw[ho]at hn;exact hn
      exact iS r1 hg hw (λZ' p' μ' s' u' a1 a2 a3 a4 a5 a6 a7=>hK Z' p' μ' s' u' a1 a2 a3 a4 a5 (λh=>by rw[hl]at h;cases h) (λ_ hs=>vv hs (a6 rfl)) a7) (aaY hnw hp h1)
     |false=>
      exact iS r1 hg hw (λZ' p' μ' s' u' a1 a2 a3 a4 a5 a6 a7=>hK Z' p' μ' s' u' a1 a2 a3 a4 a5 (λh=>by rw[hl]at h;cases h) (λh=>by rw[hn]at h;cases h) a7) h1
   ·exact hK Z _ μ _ u (r1.fin o (ic Z)) hg hw hg.ext (Nat.le_refl _) oN (λ_ hs=>hs) h1
theorem vA{i:Nat}{pl pl':gY}{u0 u u':UW}(aD:br ops i pl=true)(oN:qz u0 u\/bt ops pl'=false)(hr:bt ops pl'=false->bt ops pl=false)(a6:oP ops i=true->qz u0 u')(a8:Cz ops i=true->qz u0 u->qz u0 u'):qz u0 u'\/bt ops pl=false:=by
 unfold br at aD
 cases hl:oP ops i with
 |true=>exact .inl (a6 hl)
 |false=>
  cases hn:Cz ops i with
  |true=>exact oN.imp (a8 hn) hr
  |false=>
   simp only[hl,hn,Bool.false_or,Bool.and_eq_true,Bool.not_eq_true']at aD
   exact .inr aD.2
theorem iR{QP:bn->Mem->Prop}{Q:St->UW->Prop}{Z0:Fz}{u0:UW}{μ0:Mem}(Wz:Good Z0 u0 μ0):∀(pl:gY) (c:Bool) (p:bn) (s:St) (μ:Mem) (u:UW) (Z:Fz),SE ops pl->cz Z p s->Good Z u μ->Wf u->Z0.le Z->Ext Z0 μ0 u0.heap.size Z μ->u0.heap.size<=u.heap.size->(c=true->Good Z u0 μ0)->(qz u0 u\/bt ops pl=false)->
  sM false Z μ u QP Q->Vd E fz ops μ0 QP c pl p μ->Wd E.er fz ops u0 Q pl s u
 | .nil,c,p,s,μ,u,Z,_,hr,hg,hw,_,_,_,_,_,hC,h=>hC Z p μ s u hr hg hw hg.ext (Nat.le_refl _) (λh=>by cases h) h
 | .tk i pl,c,p,s,μ,u,Z,aD,hr,hg,hw,hz,hx,hN,hc,oN,hC,h=>by
   simp only[Vd,nR]at h
   simp only[Wd,stepT]
   cases ho:ops[i]? with
   |none=>rw[ho]at h;exact h.elim
   |some o=>
    rw[ho]at h
    simp only at h |-
    have next:∀p' s',cz Z p' s'->Vd E fz ops μ0 QP c pl p' μ->Wd E.er fz ops u0 Q pl s' u:=λp' s' r k=>iR Wz pl c p' s' μ u Z aD.2 r hg hw hz hx hN hc oN hC k
    refine kN hr (λp1 s1 r1 h1=>?_) (λp1 s1 r1 h1=>next _ _ (r1.fin o (ic Z)) h1) h
    obtain⟨hcf,h1⟩:=ak h1
    cases hl:mB o with
    |false=>exact Dm (KP:=λp' _=>Vd E fz ops μ0 QP c pl p' μ) (K:=λs' _=>Wd E.er fz ops u0 Q pl s' u) r1 (aD.1 o ho) hl next h1
    |true=>
     refine rN (KP:=λp' _=>Vd E fz ops μ0 QP c pl p' μ) (K:=λs' _=>Wd E.er fz ops u0 Q pl s' u) (Zr:=Z0) r1 Wz hz ?_ hl next h1
     cases c with
     |true=>exact .inr (hc rfl)
     |false=>simp only[Bool.false_or,Bool.not_eq_true']at hcf;exact .inl hcf
 | .ef i pl,c,p,s,μ,u,Z,aD,hr,hg,hw,hz,hx,hN,hc,oN,hC,h=>by
   have ok1:=aD.1
   refine eY hr hg hw hx.mn (λhl=>oN.elim id λhn=>?_) (λZ' p' μ' s' u' a1 a2 a3 a4 a5 a6 a8 a7=>iR Wz pl false p' s' μ' u' Z' aD.2 a1 a2 a3 (hz.trans a4.le) (hx.trans a4 hN) (Nat.le_trans hN a5) (λh=>by cases h) ?_ (hC.step a4 a5) a7) h
   ·simp only[bt,hl,Bool.true_or]at hn;cases hn
   ·exact vA ok1 oN (λhn=>by simp only[bt,Bool.or_eq_false_iff]at hn;exact hn.2) a6 a8
 | .QR i pl j pl2,c,p,s,μ,u,Z,aD,hr,hg,hw,hz,hx,hN,hc,oN,hC,h=>by
   obtain⟨⟨ok1,YC⟩,ok2,YB⟩:=aD
   refine⟨eY hr hg hw hx.mn (λhl=>oN.elim id λhn=>?_) (λZ' p' μ' s' u' a1 a2 a3 a4 a5 a6 a8 a7=>iR Wz pl false p' s' μ' u' Z' YC a1 a2 a3 (hz.trans a4.le) (hx.trans a4 hN) (Nat.le_trans hN a5) (λh=>by cases h) ?_ (hC.step a4 a5) a7) h.1,
    eY hr hg hw hx.mn (λhl=>oN.elim id λhn=>?_) (λZ' p' μ' s' u' a1 a2 a3 a4 a5 a6 a8 a7=>iR Wz pl2 false p' s' μ' u' Z' YB a1 a2 a3 (hz.trans a4.le) (hx.trans a4 hN) (Nat.le_trans hN a5) (λh=>by cases h) ?_ (hC.step a4 a5) a7) h.2⟩
   ·simp only[bt,hl,Bool.true_or]at hn;cases hn
   ·exact vA ok1 oN (λhn=>by simp only[bt,Bool.or_eq_false_iff]at hn;exact hn.1.2) a6 a8
   ·simp only[bt,hl,Bool.true_or,Bool.or_true]at hn;cases hn
   ·exact vA ok2 oN (λhn=>by simp only[bt,Bool.or_eq_false_iff]at hn;exact hn.2.2) a6 a8
 | .QO i pl j pl2 k pl3,c,p,s,μ,u,Z,aD,hr,hg,hw,hz,hx,hN,hc,oN,hC,h=>by
   obtain⟨⟨ok1,YC⟩,⟨ok2,YB⟩,ok3,agR⟩:=aD
   refine⟨eY hr hg hw hx.mn (λhl=>oN.elim id λhn=>?_) (λZ' p' μ' s' u' a1 a2 a3 a4 a5 a6 a8 a7=>iR Wz pl false p' s' μ' u' Z' YC a1 a2 a3 (hz.trans a4.le) (hx.trans a4 hN) (Nat.le_trans hN a5) (λh=>by cases h) ?_ (hC.step a4 a5) a7) h.1,
    eY hr hg hw hx.mn (λhl=>oN.elim id λhn=>?_) (λZ' p' μ' s' u' a1 a2 a3 a4 a5 a6 a8 a7=>iR Wz pl2 false p' s' μ' u' Z' YB a1 a2 a3 (hz.trans a4.le) (hx.trans a4 hN) (Nat.le_trans hN a5) (λh=>by cases h) ?_ (hC.step a4 a5) a7) h.2.1,
    eY hr hg hw hx.mn (λhl=>oN.elim id λhn=>?_) (λZ' p' μ' s' u' a1 a2 a3 a4 a5 a6 a8 a7=>iR Wz pl3 false p' s' μ' u' Z' agR a1 a2 a3 (hz.trans a4.le) (hx.trans a4 hN) (Nat.le_trans hN a5) (λh=>by cases h) ?_ (hC.step a4 a5) a7) h.2.2⟩
   ·simp only[bt,hl,Bool.true_or]at hn;cases hn
   ·exact vA ok1 oN (λhn=>by simp only[bt,Bool.or_eq_false_iff]at hn;exact hn.1.1.2) a6 a8
   ·simp only[bt,hl,Bool.true_or,Bool.or_true]at hn;cases hn
   ·exact vA ok2 oN (λhn=>by simp only[bt,Bool.or_eq_false_iff]at hn;exact hn.1.2.2) a6 a8
   ·simp only[bt,hl,Bool.true_or,Bool.or_true]at hn;cases hn
   ·exact vA ok3 oN (λhn=>by simp only[bt,Bool.or_eq_false_iff]at hn;exact hn.2.2) a6 a8
def NK(ops:Array Oper):cK->Prop
 | .nil=>True
 | .tk i q=>(∀o,ops[i]?=some o->aV o=true)/\NK ops q
 | .ld i q r=>(∀o,ops[i]?=some o->aV o=true)/\NK ops q/\NK ops r
 | .alt _ q r=>NK ops q/\NK ops r
 | .done=>True
theorem Om{af:Array Bool}{cy:List Nat}:∀{l:List Nat} {i:Nat},xE ops af cy l=some i->∀o,ops[i]?=some o->aV o=true:=λh o ho=>by
 obtain⟨_,oj,fL,ir,_⟩:=xD _ h
 rw[ho]at fL;cases fL;exact ir
theorem PL{af:Array Bool}{cy:List Nat}:∀{l:List Nat} {i:Nat},yy ops af cy l=some i->∀o,ops[i]?=some o->aV o=true:=λh o ho=>by
 obtain⟨_,oj,fL,ir,_⟩:=yx _ h
 rw[ho]at fL;cases fL;exact ir
theorem zt{cy:List Nat}{g:Nat->Option cK}(hg:∀i q,g i=some q->NK ops q):∀{l:List Nat} {q:cK},wF ops cy g l=some q->NK ops q
 |[],q,h=>by cases h;trivial
 |i::l,q,h=>by
  simp only[wF]at h
  cases hb:bA cy i with
  |true=>rw[hb]at h;exact zt hg h
  |false=>
   rw[hb]at h
   simp only[cond_false]at h
   cases ht:Ta ops i true with
   |true=>rw[ht]at h;cases h
   |false=>
    rw[ht]at h
    simp only[cond_false]at h
    split at h
    ·cases h
    ·rename_i qi hi
     split at h
     ·cases h
     ·rename_i r hl;cases h;exact⟨hg _ _ hi,zt hg hl⟩
theorem lL:∀{g:Nat} {af:Array Bool} {cy:List Nat} {p:cK},jI ops g af cy=some p->NK ops p
 |0,_,_,_,h=>by simp[jI]at h
 |g+1,af,cy,p,h=>by
  simp only[jI]at h
  split at h
  ·cases h;trivial
  ·split at h
   ·rename_i j hj
    split at h
    ·rename_i q hq;cases h;exact⟨Om hj,lL hq⟩
    ·cases h
   ·split at h
    ·rename_i j hj
     split at h
     ·rename_i q r hq hr;cases h;exact⟨PL hj,lL hq,lL hr⟩
     ·cases h
    ·exact zt (λi q hq=>lL hq) h
theorem Sb{QP:bn->Mem->Prop}{Q:St->UW->Prop}:∀(pl:cK) (p:bn) (s:St) (μ:Mem) (u:UW) (Z:Fz),NK ops pl->cz Z p s->Good Z u μ->Wf u->sM false Z μ u QP Q->Vq E fz ops QP pl p μ->Wq E.er fz ops Q pl s u:=by
 have take:∀{i:Nat} {pl:cK} {p:bn} {s:St} {μ:Mem} {u:UW} {Z:Fz},(∀o,ops[i]?=some o->aV o=true)->cz Z p s->Good Z u μ->(∀p' s',cz Z p' s'->Vq E fz ops QP pl p' μ->Wq E.er fz ops Q pl s' u)->
   nR E fz ops true μ i p (λbu=>Vq E fz ops QP pl bu μ)->stepT E.er fz ops u i s (λbu=>Wq E.er fz ops Q pl bu u):=by
  intro i pl p s μ u Z aD hr hg next h
  unfold nR at h
  unfold stepT
  cases ho:ops[i]? with
  |none=>rw[ho]at h;exact h.elim
  |some o=>
   rw[ho]at h
   simp only at h |-
   refine kN hr (λp1 s1 r1 h1=>?_) (λp1 s1 r1 h1=>next _ _ (r1.fin o (ic Z)) h1) h
   simp only[Bool.true_or,cond_true]at h1
   cases hl:mB o with
   |false=>exact Dm (KP:=λp' _=>Vq E fz ops QP pl p' μ) (K:=λs' _=>Wq E.er fz ops Q pl s' u) r1 (aD o ho) hl next h1
   |true=>exact rN (KP:=λp' _=>Vq E fz ops QP pl p' μ) (K:=λs' _=>Wq E.er fz ops Q pl s' u) (Zr:=Z) r1 hg (Fz.le.refl Z) (.inr hg) hl next h1
 intro pl
 induction pl with
 |nil=>intro p s μ u Z aD hr hg hw hC h;exact hC Z p μ s u hr hg hw hg.ext (Nat.le_refl _) (λh=>by cases h) h
 |tk i pl ih=>intro p s μ u Z aD hr hg hw hC h;exact take aD.1 hr hg (λp' s' r k=>ih p' s' μ u Z aD.2 r hg hw hC k) h
 |ld i pl r ih ihr=>intro p s μ u Z aD hr hg hw hC h;exact⟨take aD.1 hr hg (λp' s' r k=>ih p' s' μ u Z aD.2.1 r hg hw hC k) h.1,ihr p s μ u Z aD.2.2 hr hg hw hC h.2⟩
 |alt i pl r ih ihr=>
  intro p s μ u Z aD hr hg hw hC h
  refine⟨?_,ihr p s μ u Z aD.2 hr hg hw hC h.2⟩
  have h1:=h.1
  unfold GX at h1
  unfold JJ
  cases ho:ops[i]? with
  |none=>rw[ho]at h1;exact h1.elim
  |some o=>
   rw[ho]at h1
   simp only at h1 |-
   refine kN hr (λp1 s1 r1 h1=>?_) (λp1 s1 r1 h1=>ih _ _ μ u Z aD.1 (r1.fin o (ic Z)) hg hw hC h1) h1
   exact iS r1 hg hw (λZ' p' μ' s' u' r g w e n _ k=>ih p' s' μ' u' Z' aD.1 r g w (hC.step e n) k) h1
 |done=>intro p s μ u Z aD hr hg hw hC h;trivial
theorem yt{α β:Type}(f:α->β):∀(l:List (Nat×α)) (i:Nat),look (l.map λx=>(x.1,f x.2)) i=(look l i).map f
 |[],_=>rfl
 |(k,x)::l,i=>by
  simp only[List.map_cons,look]
  cases Nat.beq k i
  ·exact yt f l i
  ·rfl
end
def rj(Z:Fz)(μ:Mem)(u:UW)(QP:Exit->bn->Mem->Prop)(Q:Exit->St->UW->Prop):Prop:=∀e,sM false Z μ u (QP e) (Q e)
theorem rj.step{Z Z1:Fz}{μ μ1:Mem}{u u1:UW}{QP:Exit->bn->Mem->Prop}{Q:Exit->St->UW->Prop}(h:rj Z μ u QP Q)(e:Ext Z μ u.heap.size Z1 μ1)(hN:u.heap.size<=u1.heap.size):rj Z1 μ1 u1 QP Q:=λx=>(h x).step e hN
theorem sM.now{Z:Fz}{μ:Mem}{u:UW}{KP:bn->Mem->Prop}{K:St->UW->Prop}(h:sM false Z μ u KP K){p:bn}{s:St}(hr:cz Z p s)(hg:Good Z u μ)(hw:Wf u)(hk:KP p μ):K s u:=
 h Z p μ s u hr hg hw hg.ext (Nat.le_refl _) (λh=>by cases h) hk
theorem rj.qR{Z:Fz}{μ:Mem}{u:UW}{QP:Exit->bn->Mem->Prop}{Q:Exit->St->UW->Prop}{NP:bn->Mem->Prop}{N:St->UW->Prop}(h:rj Z μ u QP Q)(hn:sM false Z μ u NP N):rj Z μ u (uJ NP QP) (qR N Q):=by
 intro e
 cases e<;>first|exact hn|exact h _
theorem rj.vu{Z:Fz}{μ:Mem}{u:UW}{QP:Exit->bn->Mem->Prop}{Q:Exit->St->UW->Prop}(h:rj Z μ u QP Q)(id:Nat):rj Z μ u (Dl id QP) (vu id Q):=by
 intro e
 cases e with
 |exit i=>
  intro Z' p' μ' s' u' a1 a2 a3 a4 a5 a6 a7
  simp only[Dl]at a7
  simp only[az.vu]
  cases hb:Nat.beq i id with
  |true=>rw[hb]at a7;exact h .normal Z' p' μ' s' u' a1 a2 a3 a4 a5 a6 a7
  |false=>rw[hb]at a7;exact h (.exit i) Z' p' μ' s' u' a1 a2 a3 a4 a5 a6 a7
 |normal=>exact h _
 |ret=>exact h _
 |goto i=>exact h _
 |panic i=>exact h _
 |outgrown=>exact h _
def ae8(Z:Fz)(μ:Mem)(N:Nat)(l:l_)(J:ua l->Mem->Prop)(b:Tup l.er)(u:UW):Prop:=
 ∃Z' μ' a,Ext Z μ N Z' μ'/\Good Z' u μ'/\Wf u/\N<=u.heap.size/\sk Z' l a b/\J a μ'
theorem DV{Z:Fz}{μ:Mem}{u:UW}{c:mf}{J:ua c.live->Mem->Prop}{J':Tup c.er.live->UW->Prop}(h:∀Z' μ' u' a b,Ext Z μ u.heap.size Z' μ'->Good Z' u' μ'->Wf u'->u.heap.size<=u'.heap.size->sk Z' c.live a b->J a μ'->J' b u'):sM false Z μ u (zX c J) (SZ c.er J'):=
 λZ' p' μ' s' u' a1 a2 a3 a4 a5 _ a7=>JD a1 a7 λa b MG hj=>h Z' μ' u' a b a4 a2 a3 a5 MG hj
theorem aa4{p:Option Code}{A B A' B':Prop}{l:List Nat}{F F':Nat->Prop}(h:PK p A B (l.map λi=>(i,F i)))(ha:A->A')(hb:B->B')(hf:∀i,F i->F' i):PK p A' B' (l.map λi=>(i,F' i)):=by
 unfold PK at h |-
 split at h
 ·exact ha h
 ·exact hb h
 ·rename_i i
  induction l with
  |nil=>exact h
  |cons x l ih=>
   simp only[List.map_cons,yw]at h |-
   cases hx:Nat.beq x i with
   |true=>rw[hx]at h;simp only[cond_true]at h |-;exact hf x h
   |false=>rw[hx]at h;simp only[cond_false]at h |-;exact ih h
 ·exact h.elim
theorem Good.aeV{Z:Fz}{u:UW}{μ:Mem}(h:Good Z u μ){b:Nat}{w':World}{ob:Obj}(hB:pG u.toWorld w' b ob){F:sL}{S:Fr}(hF:dY Z F S):Good Z (u.born b w') (μ.set b (some (.obj ob F S)))/\μ b=none:=by
 have GF:u.heap.size<=b:=hB.ge
 have bV:∀c,c<u.heap.size->(u.born b w').heap[c]?=u.heap[c]?:=λc hc=>hB.below.block c hc
 refine⟨h.go (Fz.le.refl Z) (λc C hC=>.inl ⟨hC,bV c (h.CF (by rw[hC];simp))⟩) (λc o ho=>?_),h.ca GF⟩
 by_cases e:c=b
 ·subst e
  rw[Mem.ai]at ho;cases ho
  exact .inr ⟨λ_=>.inr rfl,h.TP GF,hB.at_,hF⟩
 ·rw[Mem.aw _ _ e]at ho
  exact .inl ⟨ho,bV c (h.qa (by rw[ho];simp)),λhp=>.inl hp,rfl⟩
theorem Good.mask{Z:Fz}{u:UW}{μ:Mem}{l:Nat}{ob:Obj}{F:sL}{S:Fr}(h:Good Z u (μ.set l (some (.obj ob F S))))(hl:μ l=none):Good Z ⟨u.toWorld.putObj l cj,λb=>u.eN b/\b≠l⟩ μ:=by
 obtain⟨_,hz,_⟩:=h.mem l (.obj ob F S) (Mem.ai _ _ _)
 refine h.go (Fz.le.refl Z) (λc C hC=>.inl ⟨hC,?_⟩) (λc o ho=>.inl ?_)
 ·have bm:c≠l:=by rintro rfl;rw[hz]at hC;cases hC
  exact aP bm
 ·have bm:c≠l:=by rintro rfl;rw[hl]at ho;cases ho
  exact⟨by rw[Mem.aw _ _ bm];exact ho,aP bm,λhp=>⟨hp,bm⟩,rfl⟩
theorem OX{Z:Fz}{p:sL}{s:Fr}(h:dY Z p s):dY Z (qW p) (wL s):=by
 intro t
 unfold qW wL
 have ht:=h t
 cases hp:p t with
 |box k o=>exact .au _
 |au=>exact .au _
 |_=>
  rw[hp]at ht
  cases hs:s t with
  |complex k a b=>rw[hs]at ht;first|(cases ht;done)|(cases ht;rename_i q_ _;cases q_)
  |_=>rw[hs]at ht;exact ht
theorem AR{Z:Fz}:∀{qs:List Nat} {ps:List PV} {vs:List Value} {p:sL} {s:Fr},dY Z p s->bK Z ps vs->dY Z (rE p qs ps) (tb s qs vs)
 |[],ps,vs,p,s,h,_=>by cases ps<;>cases vs<;>exact h
 |q::qs,[],vs,p,s,h,hm=>by rw[hm.cW];exact h
 |q::qs,x::ps,vs,p,s,h,hm=>by
  obtain⟨v,fu,rfl,h1,h2⟩:=hm.inv
  exact AR (p:=gS p q x) (s:=iz s q v) (h.iz h1) h2
variable {E:fC}
def VS(E:fC)(c:Code):Prop:=∀(fz:List Nat) (QP:Exit->bn->Mem->Prop) (Q:Exit->St->UW->Prop) (p:bn) (s:St) (μ:Mem) (u:UW) (Z:Fz),cz Z p s->Good Z u μ->Wf u->rj Z μ u QP Q->V E fz c QP p μ->W E.er fz c Q s u
theorem LS{P:Program}{f:PV}{fv:Value}{Z:Fz}{μ:Mem}{u:UW}{FP:sL}{F9:Fr}{Xb:List PV->(Option Code->Mem->Prop)->Mem->Prop}{body:List Value->(Option Code->UW->Prop)->UW->Prop}{KP:Option Code->Mem->Prop}{K:Option Code->UW->Prop}
  (hg:Good Z u μ) (hw:Wf u) (hf:bw Z f fv) (hF:dY Z FP F9) (h:bJ P f Xb KP μ)
  (Bp:∀(Z1:Fz) (u1:UW) (μ1:Mem) (vsP:List PV) (vs:List Value) (RP:Option Code->Mem->Prop) (R:Option Code->UW->Prop),dY Z1 FP F9->Good Z1 u1 μ1->Wf u1->bj Z1 vsP vs->(∀pc Z' μ' u',Ext Z1 μ1 u1.heap.size Z' μ'->Good Z' u' μ'->Wf u'->u1.heap.size<=u'.heap.size->RP pc μ'->R pc u')->Xb vsP RP μ1->body vs R u1)
  (hK:∀pc Z' μ' u',Ext Z μ u.heap.size Z' μ'->Good Z' u' μ'->Wf u'->u.heap.size<=u'.heap.size->KP pc μ'->K pc u'):Sd P fv body K u:=by
 obtain⟨⟨g,a,b,rfl⟩,h⟩:=h
 obtain⟨fv',y_,rfl,_,_⟩:=id hf.ofFn
 refine⟨⟨g,_,_,rfl⟩,λl rec w' hil hB hy=>?_⟩
 obtain⟨gb,uE⟩:=hg.aeV hB hF
 have hwb:Wf (u.born l w'):=hw.born hB
 have GF:u.heap.size<=l:=hB.ge
 have hbs:u.heap.size<=w'.heap.size:=hB.below.size
 have ry:∀Z1:Fz,bw Z1 (.fn (.yield l) [] []) (.func (.yield l) #[] #[]):=λZ1=>bj.DW (fv:=[]) (cv:=[]) (bj.nil Z1) (bj.nil Z1)
 have dG:=h l (λp=>.obj (rec p) FP F9) uE (λvs μ1 R qv hb=>?_)
 ·have hc2:=bc.v gb hwb hf (bj.cons rfl (ry Z) (bj.nil Z)) dG
  refine hc2.mono λv lo w2 hm Wr hp=>?_
  obtain⟨Z',μ',pp,e,g',hr,pc,μ3,hl3,rfl,hk⟩:=hp
  obtain⟨q_,Fc,hhl,_⟩:=g'.mem l _ (Mem.ai _ _ _)
  have eg:(u.born l w').heap.size<=w2.heap.size:=hm.size
  have Mq:w'.heap.size<=w2.heap.size:=eg
  refine⟨pc,hhl,hK pc Z' μ3 _ ⟨e.le,λb C hb hn=>?_,λb hb=>?_,λb hb=>?_,λb hb=>hg.CF hb⟩ (g'.mask hl3) ?_ ?_ hk⟩
  ·refine e.zs b C hb ?_
   have bB:=hg.CF (b:=b) (by rw[hb];simp)
   rw[Mem.aw _ _ (by omega)];exact hn
  ·rcases e.zn b hb with h1|h1|h1
   ·exact .inl h1
   ·by_cases e':b=l
    ·subst e';exact .inr (.inr GF)
    ·rw[Mem.aw _ _ e']at h1;exact .inr (.inl h1)
   ·have:w'.heap.size<=b:=h1
    exact .inr (.inr (by omega))
  ·have bm:b≠l:=by rintro rfl;exact hb hl3
   rcases e.mn b (by rw[Mem.aw _ _ bm];exact hb)with h1|h1
   ·rw[Mem.aw _ _ bm]at h1;exact .inl h1
   ·have:w'.heap.size<=b:=h1
    exact .inr (by omega)
  ·intro b hb
   have:=hwb.ret (lo:=lo) eg b hb.1
   simpa using this
  ·show _<=(w2.putObj l cj).heap.size
   have:(w2.putObj l cj).heap.size=w2.heap.size:=by simp
   omega
 ·show vJ P (.fn (.yield l) [] []) vs _ _
  intro Z1 u1 fv1 vs1 g1 hw1 ak_ akr
  have ef:fv1=.func (.yield l) #[] #[]:=by
   obtain⟨x,y,rfl,h1,h2⟩:=ak_.ofFn
   rw[h1.cW,h2.cW]
  subst ef
  obtain⟨q_,Fc,hhl,hFF⟩:=g1.mem l _ (Mem.ai _ _ _)
  have q_:=q_ rfl
  have xu:l<u1.heap.size:=(Array.getElem?_eq_some_iff.1 hhl).1
  have hwm:Wf ⟨u1.toWorld.putObj l cj,λb=>u1.eN b/\b≠l⟩:=λb hb=>by simpa using hw1 b hb.1
  have CO:=hy vs1 u1.toWorld (λb=>u1.eN b/\b≠l) (λpc uu=>∃Z' μ3,Ext Z1 μ1 u1.heap.size Z' μ3/\Good Z' uu μ3/\Wf uu/\R pc μ3) hhl (λb hb=>⟨hw1 b hb.1,hb.2⟩)
   (Bp Z1 _ μ1 vs vs1 R _ hFF (g1.mask qv) hwm akr (λpc Z' μ' u' e1 e2 e3 e4 e5=>⟨Z',μ',by simpa using e1,e2,e3,e5⟩) hb)
  refine iy.2 ⟨λb=>(u1.eN b/\b≠l)\/b=l,λb hb=>hb.elim (·.1) (λe=>by subst e;exact q_),CO.mono λv lo w2 hm Wr _ hp=>?_⟩
  obtain⟨pc,eN,w3,rfl,rfl,hmk,Ib,Z',μ3,e,g3,hw3,hR⟩:=hp
  have Uo:l<w3.heap.size:=(Array.getElem?_eq_some_iff.1 hmk).1
  have adA:Z' l=none:=by
   cases hz:Z' l with
   |none=>rfl
   |some C=>
    rcases e.zn l (by rw[hz];simp)with h1|h1|h1
    ·exact absurd Fc h1
    ·exact absurd qv h1
    ·omega
  have Sr:μ3 l=none:=by
   cases hz:μ3 l with
   |none=>rfl
   |some C=>
    rcases e.mn l (by rw[hz];simp)with h1|h1
    ·exact absurd qv h1
    ·omega
  have akw:(w3.putObj l (rec pc)).heap.size=w3.heap.size:=by simp
  refine⟨Z',μ3.set l (some (.obj (rec pc) FP F9)),pB pc.isNone,⟨e.le,λb C hb hn=>?_,λb hb=>?_,λb hb=>?_,e.lt⟩,⟨λb C hb=>?_,λb o ho=>?_⟩,.raw _ rfl rfl,pc,μ3,rfl,Sr,rfl,hR⟩
  ·refine e.zs b C hb ?_
   by_cases e':b=l
   ·subst e';exact qv
   ·rw[Mem.aw _ _ e']at hn;exact hn
  ·rcases e.zn b hb with h1|h1|h1
   ·exact .inl h1
   ·by_cases e':b=l
    ·subst e';exact absurd qv h1
    ·exact .inr (.inl (by rw[Mem.aw _ _ e'];exact h1))
   ·exact .inr (.inr h1)
  ·by_cases e':b=l
   ·subst e';exact .inl (by rw[Mem.ai];simp)
   ·rw[Mem.aw _ _ e']at hb |-
    exact e.mn b hb
  ·have bm:b≠l:=by rintro rfl;rw[adA]at hb;cases hb
   obtain⟨A,T,f,hA,wP⟩:=g3.DN b C hb
   exact⟨A,T,f,(aP bm).trans hA,wP⟩
  ·by_cases e':b=l
   ·subst e'
    rw[Mem.ai]at ho;cases ho
    exact⟨λ_=>.inl q_,adA,World.putObj_heap_same Uo,λt=>(hFF t).mono e.le⟩
   ·rw[Mem.aw _ _ e']at ho
    obtain⟨p1,p2⟩:=g3.mem b o ho
    refine⟨λGA=>?_,p2.go (Fz.le.refl _) rfl (aP e')⟩
    rcases Ib b (p1 GA)with h1|h1
    ·exact .inl h1.1
    ·refine .inr ⟨h1,?_⟩
     rw[akw];exact p2.lt
theorem VE(c:Code):VS E c:=by
 induction c with
 |skip=>intro fz QP Q p s μ u Z hr hg hw hC h;exact(hC .normal).now hr hg hw h
 |ret=>intro fz QP Q p s μ u Z hr hg hw hC h;exact(hC .ret).now hr hg hw h
 |exit i=>intro fz QP Q p s μ u Z hr hg hw hC h;exact(hC (.exit i)).now hr hg hw h
 |region id ops draw=>
  intro fz QP Q p s μ u Z hr hg hw hC h
  cases draw with
  |false=>exact t_ ops.toList p s μ u Z hr hg hw (hC .normal) h
  |true=>
   simp only[V]at h
   simp only[W]
   obtain⟨hm,h⟩:=ak h
   have nv:E.er.P.follows .mixedOrders=true:=hm
   rw[nv]
   simp only[cond_true]
   have ak5:Ue E.er.cU id=Ue E.cU id:=rfl
   rw[ak5]
   cases hiq:Ue E.cU id with
   |true=>
    rw[hiq]at h
    simp only[cond_true]at h |-
    cases hp:eI ops with
    |none=>rw[hp]at h;exact h.elim
    |some pl=>
     rw[hp]at h
     simp only at h |-
     have aD:NK ops pl:=by
      unfold eI at hp
      cases hs:Region.noSelect ops with
      |true=>rw[hs]at hp;exact lL hp
      |false=>rw[hs]at hp;cases hp
     exact Sb pl p s μ u Z aD hr hg hw (hC .normal) h
   |false=>
   rw[hiq]at h
   simp only[cond_false]at h |-
   cases hp:oD ops with
   |none=>rw[hp]at h;exact h.elim
   |some pl=>
    rw[hp]at h
    simp only at h |-
    have aD:SE ops pl:=by
     unfold oD at hp
     cases hs:Region.noSelect ops with
     |true=>rw[hs]at hp;exact iH hp
     |false=>rw[hs]at hp;cases hp
    exact iR hg pl true p s μ u Z aD hr hg hw (Fz.le.refl Z) hg.ext (Nat.le_refl _) (λ_=>hg) (.inl (Below.refl _ _)) (hC .normal) h
 |seq x y Fb Fa=>
  intro fz QP Q p s μ u Z hr hg hw hC h
  simp only[V]at h
  simp only[W]
  have adZ:∀{i:Nat},look E.er.gH i=(look E.gH i).map mf.er:=λ{i}=>yt mf.er E.gH i
  have QA:(cG y).bind (look E.er.gH)=((cG y).bind (look E.gH)).map mf.er:=by
   cases cG y with
   |none=>rfl
   |some i=>exact adZ
  rw[QA]
  split at h
  ·rename_i hj
   rw[hj]
   exact Fb fz _ _ p s μ u Z hr hg hw (hC.qR λZ' p' μ' s' u' a1 a2 a3 a4 a5 _ a7=>Fa fz QP Q p' s' μ' u' Z' a1 a2 a3 (hC.step a4 a5) a7) h
  ·rename_i l hj
   rw[hj]
   simp only[Option.map_some]
   obtain⟨hl,J,hA,hB⟩:=ak h
   rw[hr.D]at hl hA
   rw[hl]
   simp only[cond_true]
   refine⟨ae8 Z μ u.heap.size l.live J,?_,?_⟩
   ·exact Fb _ _ _ p s μ u Z hr hg hw (hC.qR (DV λZ' μ' u' a b e1 e2 e3 e4 e5 e6=>⟨Z',μ',a,e1,e2,e3,e4,e5,e6⟩)) hA
   ·rintro b u' ⟨Z',μ',a,e1,e2,e3,e4,e5,e6⟩
    exact Fa fz QP Q _ _ μ' u' Z' (Kf (hr.mono e1.le) (writes x) e5) e2 e3 (hC.step e1 e4) (hB a μ' e6)
 |cond c x y Fb Fa=>
  intro fz QP Q p s μ u Z hr hg hw hC h
  simp only[V]at h
  simp only[W]
  have hc:=hr.ev (m:=aT E) c
  split at h
  ·rename_i t ht
   rw[ht]at hc
   rw[hc.ofRaw.1]
   simp only
   cases t with
   |true=>exact Fb fz QP Q p s μ u Z hr hg hw hC h
   |false=>exact Fa fz QP Q p s μ u Z hr hg hw hC h
  ·exact h.elim
 |block id x ih=>
  intro fz QP Q p s μ u Z hr hg hw hC h
  simp only[V]at h
  simp only[W]
  exact ih fz _ _ p s μ u Z hr hg hw (hC.vu id) h
 |loop x ih=>
  intro fz QP Q p s μ u Z hr hg hw hC h
  simp only[V]at h
  simp only[W]
  have QA:(cG x).bind (look E.er.loops)=((cG x).bind (look E.loops)).map mf.er:=by
   cases cG x with
   |none=>rfl
   |some i=>exact yt mf.er E.loops i
  rw[QA]
  split at h
  ·exact h.elim
  ·rename_i l hj
   rw[hj]
   simp only[Option.map_some]
   obtain⟨hl,h⟩:=ak h
   rw[hr.D]at hl h
   rw[hl]
   simp only[cond_true]
   refine JD hr h λa b MG adY=>?_
   obtain⟨I,⟨n0,h0⟩,H_⟩:=adY
   refine⟨λn=>ae8 Z μ u.heap.size l.live (I n),⟨n0,Z,μ,a,hg.ext,hg,hw,Nat.le_refl _,MG,h0⟩,?_⟩
   rintro n b u' ⟨Z',μ',a,e1,e2,e3,e4,e5,e6⟩
   refine ih _ _ _ _ _ μ' u' Z' (Kf (hr.mono e1.le) (writes x) e5) e2 e3 ((hC.step e1 e4).qR (DV λZ2 μ2 u2 a2 b2 f1 f2 f3 f4 f5 f6=>?_)) (H_ n a μ' e6)
   obtain⟨m,hm,hi⟩:=f6
   exact⟨m,hm,Z2,μ2,a2,e1.trans f1 e4,f2,f3,Nat.le_trans e4 f4,f5,hi⟩
 |rangeFunc f ps x y Fb Fa=>
  intro fz QP Q p s μ u Z hr hg hw hC h
  simp only[V]at h
  simp only[W]
  have akD:look E.er.kU (ps.toList.headD 0)=look E.kU (ps.toList.headD 0):=rfl
  rw[akD]
  split at h
  ·exact h.elim
  ·rename_i ts wO
   rw[wO]
   simp only
   obtain⟨hlen,h⟩:=ak h
   rw[hlen]
   simp only[cond_true]
   refine LS (FP:=qW p.σ) (F9:=wL s.σ) hg hw (hr.ev (m:=aT E) f) (OX hr.slot) h ?_ ?_
   ·intro Z1 u1 μ1 vsP vs RP R hF GG hw1 vc hR hb
    obtain⟨Sm,aD,⟨rfl,hb⟩,hex⟩:=rZ (Z:=Z1) hb
    refine hex (G:=λfu=>vs=fu/\W E.er [] x (PA λdb u1=>W E.er [] y (Hd R) db u1) ⟨tb (wL s.σ) ps.toList fu,[]⟩ u1) vc.m ⟨rfl,?_⟩
    refine Fb [] _ _ ⟨rE (qW p.σ) ps.toList vsP,[]⟩ _ μ1 u1 Z1 ⟨rfl,AR hF vc.m⟩ GG hw1 (λe=>?_) hb
    cases e with
    |normal=>
     intro Z2 p2 μ2 s2 u2 a1 a2 a3 a4 a5 _ a7
     refine Fa [] _ _ p2 s2 μ2 u2 Z2 a1 a2 a3 (λe=>?_) a7
     intro Z3 p3 μ3 s3 u3 b1 b2 b3 b4 b5 _ b7
     cases e with
     |normal=>exact hR none Z3 μ3 u3 (a4.trans b4 a5) b2 b3 (Nat.le_trans a5 b5) b7
     |ret=>exact hR (some .ret) Z3 μ3 u3 (a4.trans b4 a5) b2 b3 (Nat.le_trans a5 b5) b7
     |exit i=>exact hR (some (.exit i)) Z3 μ3 u3 (a4.trans b4 a5) b2 b3 (Nat.le_trans a5 b5) b7
     |goto i=>exact b7.elim
     |panic i=>exact b7.elim
     |outgrown=>exact b7.elim
    |ret=>intro Z2 p2 μ2 s2 u2 a1 a2 a3 a4 a5 _ a7;exact a7.elim
    |exit i=>intro Z2 p2 μ2 s2 u2 a1 a2 a3 a4 a5 _ a7;exact a7.elim
    |goto i=>intro Z2 p2 μ2 s2 u2 a1 a2 a3 a4 a5 _ a7;exact a7.elim
    |panic i=>intro Z2 p2 μ2 s2 u2 a1 a2 a3 a4 a5 _ a7;exact a7.elim
    |outgrown=>intro Z2 p2 μ2 s2 u2 a1 a2 a3 a4 a5 _ a7;exact a7.elim
   ·intro pc Z' μ' u' e1 e2 e3 e4 hk
    have zN:=hr.mono e1.le
    refine aa4 (F:=λi=>QP (.exit i) p μ') hk (λha=>(hC.step e1 e4 .normal).now zN e2 e3 ha) (λhb=>?_) (λi hi=>(hC.step e1 e4 (.exit i)).now zN e2 e3 hi)
    cases hh:fx y with
    |true=>rw[hh]at hb;simp only[cond_true]at hb |-;exact(hC.step e1 e4 .ret).now zN e2 e3 hb
    |false=>rw[hh]at hb;exact hb.elim
 |scope x ih=>intro fz QP Q p s μ u Z hr hg hw hC h;exact h.elim
 |label l=>intro fz QP Q p s μ u Z hr hg hw hC h;exact h.elim
 |goto l=>intro fz QP Q p s μ u Z hr hg hw hC h;exact h.elim
 |refuse x=>intro fz QP Q p s μ u Z hr hg hw hC h;exact h.elim
theorem th{P:Program}{rw:List Nat}{Z:Fz}{p:bn}{s:St}{μ:Mem}{u:UW}(hr:cz Z p s)(hg:Good Z u μ):∀{rs:List ResultVar} {FP:List PV->Prop} {F:List Value->Prop},(∀ps vs,bj Z ps vs->FP ps->F vs)->kE P rw p μ rs FP->rH P s u rs F
 |[],FP,F,hF,h=>hF [] [] (bj.nil Z) h
 | .tmp t::rs,FP,F,hF,h=>by
   simp only[kE]at h
   simp only[rH]
   obtain⟨hk,h⟩:=ak h
   rw[(hr.slot t).plain hk]
   simp only[cond_true]
   exact th hr hg (λps vs tM hp=>hF _ _ (bj.cons hk (hr.slot t) tM) hp) h
 | .cell a t::rs,FP,F,hF,h=>by
   simp only[kE]at h
   simp only[rH]
   cases hk:eE P (Hh rw a) t with
   |none=>rw[hk]at h;exact h.elim
   |some ks=>
    rw[hk]at h
    rw[vb hk]
    simp only at h |-
    rw[List.length_map]
    have ha:=hr.slot a
    split at h
    ·rename_i k off he
     rw[he]at ha;rw[ha.vZ]
     simp only
     rw[<- hr.D]
     split at h
     ·rename_i m hm
      rw[hm]
      simp only
      obtain⟨hc,h⟩:=ak h
      simp only[Bool.and_eq_true]at hc
      have dA:=(dY.uP (k:=k) hr.slot ks.length off).c hc.2
      rw[hc.1,iP dA]
      simp only[Bool.and_self,cond_true]
      exact th hr hg (λps vs tM hp=>hF _ _ (bj.cons (CB hk (vX _ _ _ _) hc.2) (yo dA) tM) hp) h
     ·exact h.elim
    ·unfold bD at h
     split at h
     ·rename_i b off he
      rw[he]at ha
      rw[ha.ofRaw.1]
      show cX (.pointer (some ⟨b,off,none⟩)) _
      unfold cX
      simp only
      obtain⟨ps0,hlen,hc,⟨eF,h⟩,hex⟩:=lU (Z:=Z) h
      obtain⟨vs0,hv,hm⟩:=pW hg eF
      have dA:=hm.c hc
      exact hex (G:=λus=>rd u.heap b off ks.length=some us/\rH P s u rs λvs=>F (CA (bG P t) us::vs)) dA.m ⟨hv,th hr hg (λps vs tM hp=>hF _ _ (bj.cons (CB hk hlen hc) (yo dA) tM) hp) h⟩
     ·exact h.elim
def tA(n:Nat)(c:Code)(rs:List ResultVar)(k:Nat):Bool:=eP n c&&Nat.ble n 65536&&rs.all (Bc n)&&Nat.ble k n
theorem RN{Z:Fz}{ps:List PV}{vs:List Value}(h:bj Z ps vs):dY Z (Gg ps) (Gh vs):=by
 intro t
 unfold Gg Gh
 cases hp:ps[t]? with
 |none=>
  have:vs[t]?=none:=by
   rw[List.getElem?_eq_none_iff]at hp |-;rw[h.1];exact hp
  rw[this];exact ic Z
 |some p=>
  obtain⟨v,hv,_,hr⟩:=h.get hp
  rw[hv];exact hr
theorem Gk{f:FuncId}{fn:Func}{c:Code}{rs:List ResultVar}{args:List PV}{μ:Mem}{R:Kq}(hf:E.P.funcs[f]?=some fn)(hb:fn.body=some c)(Qm:fn.ntmps=E.n)(GB:fn.results.toList=rs)
  (aD:tA E.n c rs args.length=true) (gu:ct E.P f=true) (h:VF E c rs args μ R):ab E.P f args μ R:=by
 intro Z u vs hg hw vc
 refine⟨gu,u.eN,λ_ hb=>hb,?_⟩
 have akK:TI E.n c rs vs=true:=by
  simp only[tA,Bool.and_eq_true]at aD
  simp only[TI,Bool.and_eq_true]
  refine⟨⟨aD.1,by rw[vc.1];exact aD.2⟩,List.all_eq_true.2 λv hv=>vc.uU v hv⟩
 have hW:WF E.P E.n E.cU E.er.loops E.er.gH E.er.kU c rs vs ⟨u.toWorld,u.eN⟩ (λv u'=>∃Z' μ' p,Ext Z μ u.heap.size Z' μ'/\Good Z' u' μ'/\Wf u'/\bw Z' p v/\R p μ'):=by
  refine VE c [] _ _ ⟨Gg args,[]⟩ _ μ u Z ⟨rfl,RN vc⟩ hg hw (λe=>?_) h
  have fin:∀(Z':Fz) (p':bn) (μ':Mem) (s':St) (u':UW),cz Z' p' s'->Good Z' u' μ'->Wf u'->Ext Z μ u.heap.size Z' μ'->kE E.P E.fU p' μ' rs (DU R μ')->rH E.P s' u' rs (Lt (λv u'=>∃Z' μ' p,Ext Z μ u.heap.size Z' μ'/\Good Z' u' μ'/\Wf u'/\bw Z' p v/\R p μ') u'):=by
   intro Z' p' μ' s' u' a1 a2 a3 a4 a7
   refine th a1 a2 (λps fu tM hR=>?_) a7
   match ps,tM with
   |[],tM=>rw[tM.cW];exact⟨Z',μ',_,a4,a2,a3,ic Z',hR⟩
   |[q],tM=>
    obtain⟨v,agi,rfl,_,h2,h3⟩:=tM.inv
    rw[h3.cW]
    exact⟨Z',μ',_,a4,a2,a3,h2,hR⟩
   |q::q'::ps,tM=>
    obtain⟨v,agi,rfl,_,_,h3⟩:=id tM.inv
    obtain⟨v',vs3,rfl,_,_,_⟩:=h3.inv
    exact⟨Z',μ',_,a4,a2,a3,tM.qQ,hR⟩
  intro Z' p' μ' s' u' a1 a2 a3 a4 a5 _ a7
  cases e with
  |normal=>exact fin Z' p' μ' s' u' a1 a2 a3 a4 a7
  |ret=>exact fin Z' p' μ' s' u' a1 a2 a3 a4 a7
  |exit i=>exact a7.elim
  |goto i=>exact a7.elim
  |panic i=>exact a7.elim
  |outgrown=>exact a7.elim
 refine(R_ hf hb Qm GB akK (λb hb=>hw b hb) hW).mono λv lo w' hm Wr hp=>?_
 obtain⟨eN,Ib,Z',μ',p,e,g',Uj,hr,hR⟩:=hp
 refine⟨Z',μ',p,e,⟨g'.DN,λb o ho=>?_⟩,hr,hR⟩
 obtain⟨p1,p2⟩:=g'.mem b o ho
 refine⟨λGA=>?_,p2⟩
 rcases Ib b (p1 GA)with h1|h1
 ·exact .inl h1
 ·exact .inr ⟨h1,p2.lt⟩
theorem Ns{E:fC}{S:Prop}{f:FuncId}{fn:Func}{c:Code}{rs:List ResultVar}{args:List PV}{μ:Mem}{R:Kq}(hf:E.P.funcs[f]?=some fn)(hb:fn.body=some c)(Qm:fn.ntmps=E.n)(GB:fn.results.toList=rs)
  (aD:tA E.n c rs args.length=true) (gu:ct E.P f=true) (e:S=VF E c rs args μ R) (h:S):ab E.P f args μ R:=by
 subst e
 exact Gk hf hb Qm GB aD gu h
theorem VC{P:Program}{f:FuncId}{fn:Func}{S:Prop}{args:List PV}{μ:Mem}{R:Kq}(cU:List Nat)(loops gH:List (Nat×mf))(kU:List (Nat×List TypeId))(cst wrt fU:List Nat)(hf:P.funcs[f]?=some fn)(h:S)
  (hb:fn.body=some (fn.body.getD .skip):=by rfl) (aD:tA fn.ntmps (fn.body.getD .skip) fn.results.toList args.length=true:=by kernel_rfl) (gu:ct P f=true:=by kernel_rfl)
  (e:S=VF ⟨P,fn.ntmps,cU,loops,gH,kU,cst,wrt,fU⟩ (fn.body.getD .skip) fn.results.toList args μ R:=by kernel_rfl):ab P f args μ R:=
 Ns (E:=⟨P,fn.ntmps,cU,loops,gH,kU,cst,wrt,fU⟩) hf hb rfl rfl aD gu e h
@[reducible] def pA(a:Option Addr):PV:=.raw (.pointer a)
@[reducible] def pV(a:Option Addr)(n c:Nat):PV:=.raw (.slice a n c)
def nP(a:Option Addr)(F:Nat->Nat->Prop):Prop:=nn a (bD (.raw (.pointer a)) F)
def ca(μ:Mem)(T:TypeId)(cs:List PV)(K:Nat->Mem->Prop):Prop:=∀b:Nat,μ b=none->K b (μ.set b (some (.cells T cs)))
end Go.az
namespace Go.Proofs.YtbkejjmjopgpoaaGreat
open Go.Proofs.Tryz Go.az
variable {u0:Mem} {K:Kq}
set_option maxRecDepth 100000
theorem qM.c{b:Fl}{a:Lq}{d:Int}(h: ab prog 51 [.list 12 b a,pI d] u0 λg f=> ∃e,g=(pB e)/\ K (pB e) f):ab prog 11 [.list 12 b a,pI d] u0 K:= VC [] [] [] [] [] [] [] func11 h
theorem DD.c{b:Fl}{a:Lq}(h: K (.fn (.func 84) [] [.bl [.list 12 .sh a] 0]) u0):ab prog 35 [.list 12 b a] u0 K:= VC [] [] [] [] [1] [] [] func35 h
theorem qL.c{m:Fl}{b:Lq}{e:Int}(h: ae (decide (((List.length b:Nat):Int)>e)) (K (pB false) u0) (aj (α:=Int) (λn a d=> ae (decide (a<((List.length b:Nat):Int))) (0<=a/\∃(f:List PV),(b)[Int.toNat a]?=some f/\ ∃j,aA f 1 1=some [pS j]/\ ae (decide ((((ByteArray.size j:Nat):Int):Int)>100)) (K (pB false) d) (0<=a/\∃(g:List PV),(b)[Int.toNat a]?=some g/\ ∃k,aA g 4 1=some [pS k]/\ ae (decide ((((ByteArray.size k:Nat):Int):Int)>100)) (K (pB false) d) (0<=a/\∃(i:List PV),(b)[Int.toNat a]?=some i/\ ∃l,aA i 7 1=some [pS l]/\ ae (decide ((((ByteArray.size l:Nat):Int):Int)>100)) (K (pB false) d) (n (IntKind.wrap .i64 (a+1)) d)))) (K (pB true) d)) (0) u0)):ab prog 51 [.list 12 m b,pI e] u0 K:= VC [] [(4,⟨[(5,.one (.raw (.int .i64)))],[]⟩)] [] [] [] [] [] func51 h
theorem zJ.c{d:Fn}{e f g:List PV}(h: ∃A b,aA g 0 1=some [.list 12 A b]/\ aj (α:=Int) (λy a j=> ae (decide (a<((List.length b:Nat):Int))) (0<=a/\∃(i:List PV),(b)[Int.toNat a]?=some i/\ ∃l m n o p q r s t u v w,aA i 0 12=some [pI l,pS m,pI n,pI o,pS p,pI q,pI r,pS s,pI t,pB u,pB v,pI w]/\ bc prog (.fn d e f) [.agg [pI l,pS m,pI n,pI o,pS p,pI q,pI r,pS s,pI t,pB u,pB v,pI w]] j λz k=> ∃x,z=(pB x)/\ ae (!x) (K (.aC []) k) (y (IntKind.wrap .i64 (a+1)) k)) (K (.aC []) j)) (0) u0):ab prog 84 [.fn d e f,.bl g 0] u0 K:= VC [4] [(1,⟨[(7,.one (.raw (.int .i64)))],[]⟩)] [] [] [] [] [] func84 h
end Go.Proofs.YtbkejjmjopgpoaaGreat
namespace Go.Proofs.YtbkejjmjopgpoaaGreat
open Go.Proofs.Tryz Go.az
variable {u0:Mem} {K:Kq}
set_option maxRecDepth 100000
theorem uz.c{d f g j:Int}{e i:ByteArray}(h: ab prog 490 [pI d,pI g] u0 λo k=> ∃a,o=(pI a)/\ ae (a != 0) (K (pI a) k) (ab prog 491 [pS e,pS i] k λp l=> ∃b,p=(pI b)/\ ae (b != 0) (K (pI b) l) (ab prog 490 [pI f,pI j] l λq n=> ∃m,q=(pI m)/\ K (pI m) n))):ab prog 489 [.agg [pI d,pS e,pI f],.agg [pI g,pS i,pI j]] u0 K:= VC [2,3] [] [] [] [] [] [] func489 h
theorem uw.c{b d:Int}(h: ab prog 492 [pI b] u0 λi g=> ∃f,i=(pB f)/\ ab prog 492 [pI d] g λj a=> ∃e,j=(pB e)/\ ae f (ae e (K (pI 0) a) (K (pI (-1)) a)) (ae e (K (pI 1) a) (ae (decide (b<d)) (K (pI (-1)) a) (ae (decide (b>d)) (K (pI 1) a) (K (pI 0) a))))):ab prog 490 [pI b,pI d] u0 K:= VC [] [] [] [] [] [] [] func490 h
theorem pE.c{b d:ByteArray}(h: ab prog 493 [pS b] u0 λi g=> ∃f,i=(pB f)/\ ab prog 493 [pS d] g λj a=> ∃e,j=(pB e)/\ ae f (ae e (K (pI 0) a) (K (pI (-1)) a)) (ae e (K (pI 1) a) (ae (Op.bytesLess (ByteArray.toList b) (ByteArray.toList d)) (K (pI (-1)) a) (ae (!(Op.bytesLess (ByteArray.toList b) (ByteArray.toList d)||aG b d)) (K (pI 1) a) (K (pI 0) a))))):ab prog 491 [pS b,pS d] u0 K:= VC [] [] [] [] [] [] [] func491 h
theorem wY.c{a:Int}(h: K (pB (a != a)) u0):ab prog 492 [pI a] u0 K:= VC [] [] [] [] [] [] [] func492 h
theorem sB.c{a:ByteArray}(h: K (pB (!aG a a)) u0):ab prog 493 [pS a] u0 K:= VC [] [] [] [] [] [] [] func493 h
end Go.Proofs.YtbkejjmjopgpoaaGreat
namespace Go.az
open Go.RowKit
theorem ae.t{c:Bool}{A B:Prop}(hc:c=true)(h:A):ae c A B:=by subst hc;exact h
theorem ae.f{c:Bool}{A B:Prop}(hc:c=false)(h:B):ae c A B:=by subst hc;exact h
theorem ae.mk{c:Bool}{A B:Prop}(h1:c=true->A)(h2:c=false->B):ae c A B:=uA.2 ⟨h1,h2⟩
theorem aj.up{γ:Type}{body:(Int->γ->Prop)->Int->γ->Prop}{u:γ}(n:Nat)(hn:n<9223372036854775808)(I:Nat->γ->Prop)(h0:I 0 u)
  (h:∀(k:Nat) (u:γ) (next:Int->γ->Prop),k<=n->I k u->(k<n->∀u',I (k+1) u'->next (IntKind.wrap .i64 ((k:Int)+1)) u')->body next (k:Int) u):aj body 0 u:=by
 refine⟨λm s u=>∃k:Nat,s=(k:Int)/\k<=n/\I k u/\m=n-k,⟨n,0,rfl,Nat.zero_le _,h0,rfl⟩,?_⟩
 rintro _ _ u ⟨k,rfl,hk,hI,rfl⟩
 refine h k u _ hk hI λbB u' dC=>?_
 rw[aB (by omega) (by omega)]
 exact⟨n-(k+1),by omega,k+1,by omega,by omega,dC,rfl⟩
theorem aj.up2{β γ:Type}{body:(β×Int->γ->Prop)->β×Int->γ->Prop}{x:β}{u:γ}(n:Nat)(hn:n<9223372036854775808)(I:Nat->β->γ->Prop)(h0:I 0 x u)
  (h:∀(k:Nat) (x:β) (u:γ) (next:β×Int->γ->Prop),k<=n->I k x u->(k<n->∀x' u',I (k+1) x' u'->next (x',IntKind.wrap .i64 ((k:Int)+1)) u')->body next (x,(k:Int)) u):aj body (x,0) u:=by
 refine⟨λm s u=>∃k:Nat,s.2=(k:Int)/\k<=n/\I k s.1 u/\m=n-k,⟨n,0,rfl,Nat.zero_le _,h0,rfl⟩,?_⟩
 rintro _ ⟨x,_⟩ u ⟨k,rfl,hk,hI,rfl⟩
 refine h k x u _ hk hI λbB x' u' dC=>?_
 rw[aB (by omega) (by omega)]
 exact⟨n-(k+1),by omega,k+1,by simp,by omega,dC,rfl⟩
section
variable {P:Program} {g:FuncId} {args:List PV} {μ ν:Mem} {K K':Kq}
theorem ab.mono(h:ab P g args μ K)(hk:∀v μ',K v μ'->K' v μ'):ab P g args μ K':=λZ u vs hg hw ha=>by
 obtain⟨hc,h⟩:=h Z u vs hg hw ha
 refine⟨hc,h.EP λv lo w' _ _ hp=>?_⟩
 obtain⟨Z',μ',p,e,g',hr,hK⟩:=hp
 exact⟨Z',μ',p,e,g',hr,hk p μ' hK⟩
theorem ab.zU(h:ab P g args μ K)(hk:∀v μ',K v μ'->∃v' mQ,(∀Z r,bw Z v r->bw Z v' r)/\mQ.sub μ'/\K' v' mQ):ab P g args μ K':=λZ u vs hg hw ha=>by
 obtain⟨hc,h⟩:=h Z u vs hg hw ha
 refine⟨hc,h.EP λv lo w' _ _ hp=>?_⟩
 obtain⟨Z',μ',p,e,g',hr,hK⟩:=hp
 obtain⟨v',mQ,h1,h2,h3⟩:=hk p μ' hK
 exact⟨Z',mQ,v',e.sub h2,g'.sub h2,h1 Z' _ hr,h3⟩
theorem ab.wk(h:ab P g args μ λp μ'=>K (az.wk p) μ'):ab P g args μ K:=h.zU λv μ' hk=>⟨az.wk v,μ',λZ r h=>h.wk,λ_ _ h=>h,hk⟩
theorem Mem.aX{μ ν:Mem}{b:Nat}{o:Ob}(h:μ b=some o):(μ.or ν) b=some o:=by simp[Mem.or,h]
theorem Mem.bg{μ ν:Mem}{b:Nat}(h:μ b=none):(μ.or ν) b=ν b:=by simp[Mem.or,h]
@[simp] theorem Mem.tw(μ:Mem):μ.or M0=μ:=by
 funext b;unfold Mem.or;cases μ b<;>rfl
@[simp] theorem Mem.BM(μ:Mem):M0.or μ=μ:=by funext b;rfl
theorem Mem.V_{μ ν:Mem}{b:Nat}(h:(μ.or ν) b≠Option.none):μ b≠Option.none\/ν b≠Option.none:=by
 cases hb:μ b with
 |some o=>exact .inl (by simp)
 |none=>rw[Mem.bg hb]at h;exact .inr h
@[simp] theorem anH(b:Nat):M0 b=Option.none:=rfl
theorem Mem.rG(μ:Mem):M0.sep μ:=λb=>.inl rfl
theorem ab.frame(h:ab P g args μ K)(hs:μ.sep ν):ab P g args (μ.or ν) λv μ'=>∃μ1,μ1.sep ν/\μ'=μ1.or ν/\K v μ1:=λZ u vs hg hw ha=>by
 have hμ:∀b o,μ b=some o->(o.rw=true->u.eN b)/\zE Z u b o:=λb o e=>hg.mem b o (Mem.aX e)
 have hν:∀b o,ν b=some o->μ b=none/\(o.rw=true->u.eN b)/\zE Z u b o:=λb o e=>by
  have hn:μ b=none:=(hs b).resolve_right (by rw[e];simp)
  exact⟨hn,hg.mem b o (by rw[Mem.bg hn];exact e)⟩
 have GG:Good Z ⟨u.toWorld,λb=>∃o,μ b=some o/\o.rw=true⟩ μ:=⟨hg.DN,λb o e=>⟨λhr=>⟨o,e,hr⟩,(hμ b o e).2⟩⟩
 obtain⟨hc,F,hF,dG⟩:=h Z ⟨u.toWorld,λb=>∃o,μ b=some o/\o.rw=true⟩ vs GG (λb ⟨o,ho,_⟩=>GG.qa (by rw[ho];simp)) ha
 refine⟨hc,F,λb hb=>?_,dG.mono λv lo w' hm Wr hp=>?_⟩
 ·obtain⟨o,ho,hr⟩:=hF b hb
  exact(hμ b o ho).1 hr
 ·obtain⟨Z',μ1,p,e,g',hr,hK⟩:=hp
  have hnb:∀b o,ν b=some o->w'.heap[b]?=u.heap[b]?/\Z' b=Z b/\μ1 b=none:=λb o hb=>by
   obtain⟨h1,_,h2⟩:=hν b o hb
   have bB:=h2.lt
   refine⟨hm.bV b bB λhf=>(by obtain⟨o',Ql,_⟩:=hF b hf;rw[h1]at Ql;cases Ql),?_,?_⟩
   ·cases hz:Z b with
    |some C=>exact e.zs b C hz h1
    |none=>
     cases nE:Z' b with
     |none=>rfl
     |some C=>
      rcases e.zn b (by rw[nE];simp)with h3|h3|h3
      ·exact absurd hz h3
      ·exact absurd h1 h3
      ·have:u.heap.size<=b:=h3;omega
   ·cases hx:μ1 b with
    |none=>rfl
    |some o'=>
     rcases e.mn b (by rw[hx];simp)with h3|h3
     ·exact absurd h1 h3
     ·have:u.heap.size<=b:=h3;omega
  refine⟨Z',μ1.or ν,p,⟨e.le,λb C hb hn=>?_,λb hb=>?_,λb hb=>?_,e.lt⟩,⟨g'.DN,λb o ho=>?_⟩,hr,μ1,λb=>?_,rfl,hK⟩
  ·refine e.zs b C hb ?_
   cases hx:μ b with
   |none=>rfl
   |some o=>rw[Mem.aX hx]at hn;cases hn
  ·rcases e.zn b hb with h3|h3|h3
   ·exact .inl h3
   ·refine .inr (.inl ?_)
    cases hx:μ b with
    |none=>exact absurd hx h3
    |some o=>rw[Mem.aX hx];simp
   ·exact .inr (.inr h3)
  ·rcases Mem.V_ hb with h3|h3
   ·rcases e.mn b h3 with h4|h4
    ·left
     cases hx:μ b with
     |none=>exact absurd hx h4
     |some o=>rw[Mem.aX hx];simp
    ·exact .inr h4
   ·cases hx:ν b with
    |none=>exact absurd hx h3
    |some o=>exact .inl (by rw[Mem.bg (hν b o hx).1,hx];simp)
  ·cases hx:μ1 b with
   |some o'=>
    rw[Mem.aX hx]at ho;cases ho
    obtain⟨p1,p2⟩:=g'.mem b _ hx
    refine⟨λGA=>?_,p2⟩
    rcases p1 GA with⟨o2,hy,GC⟩|p1
    ·exact .inl ((hμ b o2 hy).1 GC)
    ·exact .inr p1
   |none=>
    rw[Mem.bg hx]at ho
    obtain⟨h1,h2,h3⟩:=hν b o ho
    obtain⟨h4,h5,h6⟩:=hnb b o ho
    exact⟨λGA=>.inl (h2 GA),h3.go e.le h5 h4⟩
  ·cases hx:ν b with
   |none=>exact .inr rfl
   |some o=>exact .inl (hnb b o hx).2.2
def ax(P:Program)(g:FuncId)(args:List PV)(K:PV->Prop):Prop:=ab P g args M0 λp _=>K p
def Pure(P:Program)(g:FuncId)(args:List PV)(r:PV):Prop:=ax P g args λp=>p=r
theorem ax.call{Kp:PV->Prop}(h:ax P g args Kp)(hk:∀p,Kp p->K p μ):ab P g args μ K:=by
 have h1:=ab.frame (ν:=μ) h (Mem.rG μ)
 rw[Mem.BM]at h1
 refine h1.zU λv μ' ⟨μ1,hs,e,hK⟩=>⟨v,μ,λ_ _ h=>h,λb o hb=>?_,hk v hK⟩
 rw[e,Mem.bg ((hs b).resolve_right (by rw[hb];simp))];exact hb
theorem Pure.call{r:PV}(h:Pure P g args r)(hk:K r μ):ab P g args μ K:=ax.call h λp e=>by subst e;exact hk
theorem ax.q{Kp:PV->Prop}(h:ax P g args Kp)(hk:∀p,Kp p->K p M0):dg P g args μ K:=λZ u vs hg hw ha=>by
 obtain⟨hc,dG⟩:=h Z ⟨u.toWorld,λ_=>False⟩ vs ⟨hg.DN,λb o e=>by cases e⟩ (λ_ h=>h.elim) ha
 refine⟨hc,dG.EP λv lo w' _ _ hp=>?_⟩
 obtain⟨Z',μ',p,e,g',hr,hK⟩:=hp
 exact⟨Z',M0,p,e.sub (λb o h=>by cases h),g'.sub (λb o h=>by cases h),hr,hk p hK⟩
theorem Pure.q{r:PV}(h:Pure P g args r)(hk:K r M0):dg P g args μ K:=ax.q h λp e=>by subst e;exact hk
theorem ax.of{Kp:PV->Prop}(h:ab P g args M0 λp _=>Kp (az.wk p)):ax P g args Kp:=ab.wk h
end
def wI(fl:Fl)(n size:Nat)(μ:Mem):Prop:=
 match fl with
 | .sh=>False
 | .nr=>True
 | .nil=>True
 | .mS b c=>μ b=some (.mS (n*size) (c*size))
def Fl.at(fl:Fl)(b:Nat):Prop:=match fl with| .mS b' _=>b=b'|_=>False
theorem bF.go{q:Bool}{size bytes:Nat}{fl:Fl}{rows new:Lq}{μ:Mem}{K:Fl->Mem->Prop}(h:wI fl rows.length size μ)(hb:(rows.length+new.length)*bytes<=140737488355328)(nH:rows.length+new.length<4611686018427387904)
  (hK:∀iD μ',wI iD (rows.length+new.length) size μ'->(∀b o,μ b=some o->¬fl.at b->μ' b=some o/\¬iD.at b)->K iD μ') (hq:q=true->∀b c,fl≠ .mS b c:=by first|(intro h;cases h;done)|(intro _ b c h;cases h)):bF q size bytes fl rows new μ K:=by
 refine⟨hb,nH,?_⟩
 cases new with
 |nil=>exact hK fl μ (by simpa using h) (λb o h1 h2=>⟨h1,h2⟩)
 |cons r rs=>
  show VA q size fl rows.length (r::rs).length μ K
  have nw:∀b c,μ b=none->K (.mS b c) (μ.set b (some (.mS ((rows.length+(r::rs).length)*size) (c*size)))):=λb c hm=>by
   refine hK _ _ (Mem.ai _ _ _) λb' o h1 h2=>?_
   have bm:b'≠b:=by rintro rfl;rw[hm]at h1;cases h1
   exact⟨by rw[Mem.aw _ _ bm];exact h1,bm⟩
  cases fl with
  |sh=>exact h
  |nr=>exact λb c hm _=>nw b c hm
  |nil=>exact λb c hm _=>nw b c hm
  |mS b c=>
   cases q with
   |true=>exact absurd rfl (hq rfl b c)
   |false=>
    refine⟨h,λb' c' hor _=>hK _ _ (Mem.ai _ _ _) λb2 o h1 h2=>?_⟩
    have h2:b2≠b:=h2
    have bm:b2≠b':=by
     rintro rfl
     rcases hor with e|e
     ·exact h2 e
     ·rw[e]at h1;cases h1
    exact⟨by rw[Mem.aw _ _ bm,Mem.aw _ _ h2];exact h1,bm⟩
abbrev Item:=List PV->Mem->Mem->Prop
def VG(P:Program)(f:PV)(items:List Item)(St:Mem->Mem->Prop):Prop:=
 (∃g a b,f=.fn (.func g) a b)/\∀(fy:Fn) (ya yb:List PV) (I:Nat->Mem->Prop) (S:Mem->Prop) (μ:Mem),qy fy True->(∀μ',St μ μ'->I 0 μ')->
  (∀(k:Nat) (h:k<items.length) (vs:List PV) (μ μ1:Mem),I k μ->items[k] vs μ μ1->bc P (.fn fy ya yb) vs μ1 λv μ'=>(v=pB true/\I (k+1) μ')\/(v=pB false/\S μ'))->
  bc P f [.fn fy ya yb] μ λ_ μ'=>I items.length μ'\/S μ'
def tQ(vs:List PV):Item:=λfu μ μ'=>fu=vs/\μ'=μ
abbrev Jf(P:Program)(f:PV)(items:Lq):Prop:=VG P f (items.map tQ) Eq
theorem bc.mono{P:Program}{f:PV}{args:List PV}{μ:Mem}{K K':Kq}(h:bc P f args μ K)(hk:∀v μ',K v μ'->K' v μ'):bc P f args μ K':=by
 unfold bc at h |-
 split at h
 ·exact h.mono hk
 ·intro Z u fv vs hg hw hf ha
  refine ng.mono (h Z u fv vs hg hw hf ha) λv lo w' _ _ hp=>?_
  obtain⟨Z',μ',p,e,g',hr,hK⟩:=hp
  exact⟨Z',μ',p,e,g',hr,hk p μ' hK⟩
theorem Mem.set_set(μ:Mem)(b:Nat)(o o':Option Ob):(μ.set b o).set b o'=μ.set b o':=by
 funext c;by_cases h:c=b
 ·subst h;simp
 ·rw[Mem.aw _ _ h,Mem.aw _ _ h,Mem.aw _ _ h]
theorem VG.mk{P:Program}{g:FuncId}{a b:List PV}{items:List Item}{St:Mem->Mem->Prop}
  (h:∀(fy:Fn) (ya yb:List PV) (I:Nat->Mem->Prop) (S:Mem->Prop) (μ:Mem),qy fy True->(∀μ',St μ μ'->I 0 μ')->
   (∀(k:Nat) (h:k<items.length) (vs:List PV) (μ μ1:Mem),I k μ->items[k] vs μ μ1->bc P (.fn fy ya yb) vs μ1 λv μ'=>(v=pB true/\I (k+1) μ')\/(v=pB false/\S μ'))->
   ab P g (a++[.fn fy ya yb]++b) μ λ_ μ'=>I items.length μ'\/S μ'):VG P (.fn (.func g) a b) items St:=
 ⟨⟨g,a,b,rfl⟩,λfy ya yb I S μ hy h0 cQ=>h fy ya yb I S μ hy h0 cQ⟩
theorem Jf.mk{P:Program}{g:FuncId}{a b:List PV}{items:Lq}
  (h:∀(fy:Fn) (ya yb:List PV) (I:Nat->Mem->Prop) (S:Mem->Prop) (μ:Mem),qy fy True->I 0 μ->
   (∀(k:Nat) (h:k<items.length) (μ:Mem),I k μ->bc P (.fn fy ya yb) items[k] μ λv μ'=>(v=pB true/\I (k+1) μ')\/(v=pB false/\S μ'))->
   ab P g (a++[.fn fy ya yb]++b) μ λ_ μ'=>I items.length μ'\/S μ'):Jf P (.fn (.func g) a b) items:=
 VG.mk λfy ya yb I S μ hy h0 cQ=>by
  have:=h fy ya yb I S μ hy (h0 μ rfl) (λk hk μ hI=>cQ k (by simpa using hk) _ μ μ hI (by simp[tQ]))
  simpa using this
def PV.wA:PV->Bool
 | .raw _=>true
 |_=>false
def PV.Bw:PV->Bool
 | .raw _=>true
 | .agg cs=>cs.all PV.wA
 |_=>false
def PV.flat:PV->Bool
 | .raw _=>true
 | .agg cs=>cs.all PV.wA
 | .aC vs=>vs.all PV.Bw
 |_=>false
theorem bw.wA{Z Z':Fz}{p:PV}{v:Value}(hf:p.wA=true)(h:bw Z p v):bw Z' p v:=by
 cases p<;>simp[PV.wA]at hf
 obtain⟨rfl,h1,h2⟩:=h.ofRaw
 exact .raw _ h1 h2
theorem bw.Bw{Z Z':Fz}{p:PV}{v:Value}(hf:p.Bw=true)(h:bw Z p v):bw Z' p v:=by
 cases p<;>simp only[PV.Bw]at hf<;>try (cases hf;done)
 ·exact h.wA (by rfl)
 ·obtain⟨vs,rfl,hc⟩:=h.oB
  exact aY.mR ⟨hc.1,λi p v a b=>⟨(hc.2 i p v a b).1,(hc.2 i p v a b).2.wA (List.all_eq_true.1 hf p (List.mem_of_getElem? a))⟩⟩
theorem bw.flat{Z Z':Fz}{p:PV}{v:Value}(hf:p.flat=true)(h:bw Z p v):bw Z' p v:=by
 cases p<;>simp only[PV.flat]at hf<;>try (cases hf;done)
 ·exact h.wA (by rfl)
 ·exact h.Bw hf
 ·obtain⟨vs,rfl,hc⟩:=h.yj
  exact bj.qQ ⟨hc.1,λi p v a b=>⟨(hc.2 i p v a b).1,(hc.2 i p v a b).2.Bw (List.all_eq_true.1 hf p (List.mem_of_getElem? a))⟩⟩
structure SlM(μ:Mem)(a:Option Addr)(n c sz:Nat)(rows:Lq):Prop where
 len:rows.length=n
 cap:n<=c
 spot:c=0\/fW a
 each:∀r∈rows,r.length=sz
 cell:aE rows.flatten=true
 read:n≠0->∃b o,a=some ⟨b,o,none⟩/\aN μ b o (n*sz)=some rows.flatten
def cellsOf:Option Ob->Option (List PV)
 |some (.cells _ cs)=>some cs
 |some (.ro _ cs)=>some cs
 |_=>none
def jx(Z:Fz)(u:UW)(μ:Mem):Fz:=λb=>match cellsOf (μ b)with|some _=>(match u.heap[b]? with|some (.cells A _ _)=>some A.toList|_=>none)|none=>Z b
theorem r_{Z:Fz}{u:UW}{μ:Mem}(hg:Good Z u μ){b:Nat}{cs:List PV}(hm:cellsOf (μ b)=some cs):Z b=none/\∃(A:Array Value) (T:TypeId),u.heap[b]?=some (.cells A T (0,0))/\bK Z cs A.toList:=by
 unfold cellsOf at hm
 split at hm
 ·rename_i T cN e;cases hm
  obtain⟨_,hz,A,hA,hc⟩:=hg.mem b _ e
  exact⟨hz,A,T,hA,hc⟩
 ·rename_i T cN e;cases hm
  obtain⟨_,hz,A,hA,hc⟩:=hg.mem b _ e
  exact⟨hz,A,T,hA,hc⟩
 ·cases hm
theorem iF{Z:Fz}{u:UW}{μ:Mem}(hg:Good Z u μ):Z.le (jx Z u μ):=λb C hC=>by
 refine⟨C,?_,List.prefix_refl _⟩
 unfold jx
 split
 ·rename_i cs hm
  have hz:=(r_ hg hm).1
  rw[hz]at hC;cases hC
 ·exact hC
theorem Lf{Z:Fz}{u:UW}{μ:Mem}(hg:Good Z u μ){b:Nat}{cs:List PV}(hm:cellsOf (μ b)=some cs):∃A:Array Value,jx Z u μ b=some A.toList/\bK Z cs A.toList:=by
 obtain⟨hz,A,T,hA,hc⟩:=r_ hg hm
 refine⟨A,?_,hc⟩
 unfold jx
 rw[hm]
 simp only[hA]
theorem Yq{μ:Mem}{b o n:Nat}{r:List PV}(h:aN μ b o n=some r):∃cs,cellsOf (μ b)=some cs/\o+n<=cs.length/\r=(cs.drop o).take n:=by
 unfold aN at h
 split at h
 ·rename_i e;split at h
  ·rename_i hl;cases h;exact⟨_,by rw[e];rfl,hl,rfl⟩
  ·cases h
 ·rename_i e;split at h
  ·rename_i hl;cases h;exact⟨_,by rw[e];rfl,hl,rfl⟩
  ·cases h
 ·cases h
inductive mh(μ:Mem):PV->PV->Prop where
 |same (c:PV):mh μ c c
 |wk (c:PV):mh μ c (cu c)
 |nil (sz:Nat) (rows:Lq):mh μ (.list sz .nil rows) (.raw (.slice none 0 0))
 |YQ (a:Option Addr) (k sz:Nat) (spot:k=0\/fW a):mh μ (.raw (.slice a 0 k)) (.list sz .sh [])
 |lst (b o k sz:Nat) (rows:Lq) (cs:List PV) (cap:rows.length<=k) (each:∀r∈rows,r.length=sz) (cell:aE rows.flatten=true) (read:aN μ b o (rows.length*sz)=some cs) (h:∀(i:Nat) c d,cs[i]?=some c->rows.flatten[i]?=some d->mh μ c d):mh μ (.raw (.slice (some ⟨b,o,none⟩) rows.length k)) (.list sz .sh rows)
 |agg {cs ds:List PV} (hl:cs.length=ds.length) (cell:aE ds=true) (h:∀(i:Nat) c d,cs[i]?=some c->ds[i]?=some d->mh μ c d):mh μ (.agg cs) (.agg ds)
 |aC {cs ds:List PV} (hl:cs.length=ds.length) (ok:∀d∈ds,d.ok=true) (h:∀(i:Nat) c d,cs[i]?=some c->ds[i]?=some d->mh μ c d):mh μ (.aC cs) (.aC ds)
theorem mh.rep{Z:Fz}{u:UW}{μ:Mem}(hg:Good Z u μ){c d:PV}(hb:mh μ c d):∀{v:Value},bw Z c v->bw (jx Z u μ) d v:=by
 induction hb with
 |same=>exact λhr=>hr.mono (iF hg)
 |wk=>exact λhr=>hr.cu.mono (iF hg)
 |nil sz rows=>
  intro v hr
  cases hr with
  |list _ _ _ _ _ _ b o C g hn hc hs hr ha hgg hk hp hf=>
   obtain⟨rfl,rfl,rfl⟩:=hf
   exact .raw _ rfl rfl
 |YQ a k sz spot=>
  intro v hr
  rw[hr.ofRaw.1]
  exact .list sz .sh [] a 0 k 0 0 [] (λ_ _=>undef) rfl (Nat.zero_le _) spot (by simp) (λh=>absurd rfl h) (λi j hi=>by omega) (by simp) (by simp) trivial
 |lst b o k sz rows cs cap each cell read h ih=>
  intro v hr
  rw[hr.ofRaw.1]
  obtain⟨cs0,hm,hl,rfl⟩:=Yq read
  obtain⟨A,hz,hrm⟩:=Lf hg hm
  have Uz:A.toList.length=cs0.length:=hrm.1
  have iB:rows.flatten.length=rows.length*sz:=dw each
  have hv:aY (jx Z u μ) rows.flatten ((A.toList.drop o).take (rows.length*sz)):=by
   refine⟨by rw[List.length_take,List.length_drop,iB];omega,λi d v hd hv=>?_⟩
   have hcd:d.cell=true:=by
    have:=List.all_eq_true.1 cell d (List.mem_of_getElem? hd);exact this
   have hi:i<rows.length*sz:=by rw[<- iB];exact(List.getElem?_eq_some_iff.1 hd).1
   have hc:((cs0.drop o).take (rows.length*sz))[i]?=some (cs0[o+i]'(by omega)):=by
    rw[List.getElem?_take,if_pos hi,List.getElem?_drop,List.getElem?_eq_getElem (by omega)]
   rw[List.getElem?_take,if_pos hi,List.getElem?_drop]at hv
   exact⟨hcd,ih i _ d hc hd (hrm.2 (o+i) _ v (List.getElem?_eq_getElem (by omega)) hv)⟩
  exact n_ (Z:=jx Z u μ) (sz:=sz) (fl:=.sh) (rows:=rows) (b:=b) (o:=o) (c:=k) (C:=A.toList) each hv hz (λj hj=>by
   rw[List.getElem?_take,if_pos (by simp at hj;omega),List.getElem?_drop]) cap trivial
 |agg hl cell h ih=>
  intro v hr
  obtain⟨vs,rfl,hc⟩:=hr.oB
  refine aY.mR ⟨hc.1.trans hl,λi d v hd hv=>?_⟩
  rename_i cs ds
  have bB:i<cs.length:=by rw[hl];exact(List.getElem?_eq_some_iff.1 hd).1
  have hi:cs[i]?=some cs[i]:=List.getElem?_eq_getElem bB
  exact⟨List.all_eq_true.1 cell d (List.mem_of_getElem? hd),ih i _ d hi hd (hc.2 i _ v hi hv).2⟩
 |aC hl ok h ih=>
  intro v hr
  obtain⟨vs,rfl,hc⟩:=hr.yj
  refine bj.qQ ⟨hc.1.trans hl,λi d v hd hv=>?_⟩
  rename_i cs ds
  have bB:i<cs.length:=by rw[hl];exact(List.getElem?_eq_some_iff.1 hd).1
  have hi:cs[i]?=some cs[i]:=List.getElem?_eq_getElem bB
  exact⟨ok d (List.mem_of_getElem? hd),ih i _ d hi hd (hc.2 i _ v hi hv).2⟩
theorem mh.list{μ:Mem}{a:Option Addr}{n k sz:Nat}{rows:Lq}(h:SlM μ a n k sz rows):mh μ (.raw (.slice a n k)) (.list sz .sh rows):=by
 by_cases hn:n=0
 ·have:rows=[]:=List.eq_nil_of_length_eq_zero (by rw[h.len,hn])
  subst this hn
  exact .YQ a k sz h.spot
 ·obtain⟨b,o,rfl,hr⟩:=h.read hn
  obtain rfl:=h.len
  exact .lst b o k sz rows _ h.cap h.each h.cell hr λi c d hc hd=>by rw[hc]at hd;cases hd;exact .same _
def jA(μ:Mem)(cs ds:List PV):Prop:=cs.length=ds.length/\∀(i:Nat) c d,cs[i]?=some c->ds[i]?=some d->mh μ c d
theorem jA.refl(μ:Mem)(cs:List PV):jA μ cs cs:=⟨rfl,λi c d h1 h2=>by rw[h1]at h2;cases h2;exact .same _⟩
theorem jA.cons{μ:Mem}{c d:PV}{cs ds:List PV}(h:mh μ c d)(k:jA μ cs ds):jA μ (c::cs) (d::ds):=⟨by simp[k.1],λi x y h1 h2=>by
 cases i with
 |zero=>simp at h1 h2;subst h1 h2;exact h
 |succ i=>exact k.2 i x y h1 h2⟩
theorem jA.rep{Z:Fz}{u:UW}{μ:Mem}(hg:Good Z u μ){cs ds:List PV}{vs:List Value}(hb:jA μ cs ds)(hr:bK Z cs vs):bK (jx Z u μ) ds vs:=by
 refine⟨hr.1.trans hb.1,λi d v hd hv=>?_⟩
 have bB:i<cs.length:=by rw[hb.1];exact(List.getElem?_eq_some_iff.1 hd).1
 have hi:cs[i]?=some cs[i]:=List.getElem?_eq_getElem bB
 exact(hb.2 i _ d hi hd).rep hg (hr.2 i _ v hi hv)
theorem ix{Z:Fz}{u:UW}{μ:Mem}{b:Nat}(h:μ b=none):jx Z u μ b=Z b:=by
 unfold jx;rw[h];rfl
theorem zz{Z:Fz}{u:UW}{μ μ1:Mem}(hg:Good Z u μ):∀b C,jx Z u μ1 b=some C->∃A T f,u.heap[b]?=some (.cells A T f)/\C <+: A.toList:=λb C hC=>by
 unfold jx at hC
 split at hC
 ·split at hC
  ·rename_i A T f hA;cases hC;exact⟨A,T,f,hA,List.prefix_refl _⟩
  ·cases hC
 ·exact hg.DN b C hC
theorem ab.query{P:Program}{g:FuncId}{args:List PV}{μ ν μ1:Mem}{K:Kq}{Kq:PV->Prop}(h:ab P g args ν λp _=>Kq p)(h1:∀b o,μ1 b=some o->μ b=some o)
  (hν:∀b o,ν b=some o->μ1 b=none/\∃T cs ds,o=.ro T ds/\μ b=some (.cells T cs)/\jA μ1 cs ds) (hf:∀p,Kq p->p.flat=true) (hk:∀p,Kq p->K p μ):ab P g args μ K:=λZ u vs hg hw ha=>by
 have GG:Good Z u μ1:=hg.sub h1
 have hle:=iF GG
 have hgb:Good (jx Z u μ1) ⟨u.toWorld,λ_=>False⟩ ν:=by
  refine⟨zz hg,λb o ho=>?_⟩
  obtain⟨hn,T,cs,ds,rfl,hm,hb⟩:=hν b o ho
  obtain⟨_,hz,A,hA,hc⟩:=hg.mem b _ hm
  exact⟨λhr=>(by cases hr),(ix hn).trans hz,A,hA,hb.rep GG hc⟩
 obtain⟨hc,F,hF,dG⟩:=h (jx Z u μ1) ⟨u.toWorld,λ_=>False⟩ vs hgb (λ_ h=>h.elim) (bj.mono hle ha)
 refine⟨hc,F,λb hb=>(hF b hb).elim,dG.mono λv lo w' hm Wr hp=>?_⟩
 obtain⟨Z',μ',p,e,g',hr,hK⟩:=hp
 have bV:∀b,b<u.heap.size->w'.heap[b]?=u.heap[b]?:=λb hb=>hm.bV b hb λhf=>hF b hf
 refine⟨Z,μ,p,hg.ext,hg.go (Fz.le.refl Z) (λb C hC=>.inl ⟨hC,bV b (hg.CF (by rw[hC];simp))⟩) (λb o ho=>.inl ⟨ho,bV b (hg.qa (by rw[ho];simp)),λhp=>.inl hp,rfl⟩),hr.flat (hf p hK),hk p hK⟩
def GU(μ μ':Mem):Prop:=∀(Z:Fz) (u:UW),Good Z u μ->∃Z',Ext Z μ u.heap.size Z' μ'/\Good Z' u μ'
theorem GU.refl(μ:Mem):GU μ μ:=λZ u hg=>⟨Z,hg.ext,hg⟩
theorem ab.pre{P:Program}{g:FuncId}{args:List PV}{μ μ':Mem}{K:Kq}(hG:GU μ μ')(h:ab P g args μ' K):ab P g args μ K:=λZ u vs hg hw ha=>by
 obtain⟨Z',e,g'⟩:=hG Z u hg
 obtain⟨hc,F,hF,h⟩:=h Z' u vs g' hw (bj.mono e.le ha)
 refine⟨hc,F,hF,h.mono λv lo w' _ hs hp=>?_⟩
 obtain⟨Z'',mQ,p,e',g'',hr,hK⟩:=hp
 exact⟨Z'',mQ,p,e.trans e' (Nat.le_refl _),g'',hr,hK⟩
theorem GU.bor{μ μ1 μ':Mem}(h1:∀b o,μ1 b=some o->μ b=some o)(h:∀b o,μ' b=some o->μ1 b=none/\(μ b=some o\/∃T cs ds,o=.cells T ds/\μ b=some (.cells T cs)/\jA μ1 cs ds)):GU μ μ':=λZ u hg=>by
 have GG:Good Z u μ1:=hg.sub h1
 have hle:=iF GG
 have hmu:∀b,μ b=none->μ1 b=none:=λb hb=>by
  cases hx:μ1 b with
  |none=>rfl
  |some o=>rw[h1 b o hx]at hb;cases hb
 refine⟨jx Z u μ1,⟨hle,λb C hC hn=>?_,λb hb=>?_,λb hb=>?_,λ_ h'=>hg.CF h'⟩,zz hg,λb o ho=>?_⟩
 ·rw[ix (hmu b hn)];exact hC
 ·cases hx:μ1 b with
  |none=>rw[ix hx]at hb;exact .inl hb
  |some o=>exact .inr (.inl (by rw[h1 b o hx];simp))
 ·cases hx:μ' b with
  |none=>exact absurd hx hb
  |some o=>
   rcases(h b o hx).2 with e|⟨T,cs,ds,_,e,_⟩
   ·exact .inl (by rw[e];simp)
   ·exact .inl (by rw[e];simp)
 ·obtain⟨hn,e|⟨T,cs,ds,rfl,e,hb⟩⟩:=h b o ho
  ·obtain⟨g1,g2⟩:=hg.mem b o e
   exact⟨g1,g2.go hle (ix hn) rfl⟩
  ·obtain⟨g1,hz,A,hA,hc⟩:=hg.mem b _ e
   exact⟨λ_=>g1 rfl,(ix hn).trans hz,A,hA,hb.rep GG hc⟩
theorem aI{T:Type}{pv:T->List PV}{l:List T}{k:Nat}(hk:k<l.length):(l.map pv)[Int.toNat (k:Int)]?=some (pv l[k]):=by
 rw[Int.toNat_natCast,List.getElem?_map,List.getElem?_eq_getElem hk];rfl
def fj(w:World):Fz:=λb=>match w.heap[b]? with|some (.cells A _ _)=>some A.toList|_=>none
theorem VB{w:World}{b:Nat}{A:Array Value}{T:TypeId}{f:Nat×Nat}(h:w.heap[b]?=some (.cells A T f)):fj w b=some A.toList:=by simp[fj,h]
theorem Nn(w:World):Good (fj w) ⟨w,λ_=>False⟩ M0:=by
 refine⟨λb C hC=>?_,λb o h=>by cases h⟩
 unfold fj at hC
 split at hC
 ·rename_i A T f h
  cases hC
  exact⟨A,T,f,h,List.prefix_refl _⟩
 ·cases hC
theorem ax.calls{P:Program}{g:FuncId}{args:List PV}{K:PV->Prop}{w:World}{vs:List Value}(h:ax P g args K)(ha:bj (fj w) args vs):Calls P g vs.toArray w λe w'=>(∃v p Z,e=.returned v/\bw Z p v/\K p)/\Below w.heap.size w w':=by
 obtain⟨_,F,hF,dG⟩:=h (fj w) ⟨w,λ_=>False⟩ vs (Nn w) (λ_ h=>h.elim) ha
 refine(dG w (vC.refl w)).mono λe w' ⟨v,w2,he,ho,Z',μ',p,_,_,hr,hK⟩=>⟨⟨v,p,Z',he,hr,hK⟩,?_⟩
 exact⟨ho.mod.os,ho.mod.tape,ho.mod.output,ho.mod.size,λb hb=>ho.mod.bV b hb λhf=>hF b hf⟩
structure Mv(μ μ':Mem)(F F':List Nat):Prop where
 bV:∀x,μ x≠none->x∉F->μ' x=μ x
 grow:∀x∈F',x∈F\/μ x=none
theorem Mv.refl(μ:Mem)(F:List Nat):Mv μ μ F F:=⟨λ_ _ _=>rfl,λ_ h=>.inl h⟩
theorem Mv.trans{μ μ' mQ:Mem}{F F' F'':List Nat}(h:Mv μ μ' F F')(k:Mv μ' mQ F' F''):Mv μ mQ F F'':=by
 have hk:∀x,μ x≠none->x∉F->mQ x=μ x:=λx hx hn=>by
  have e:=h.bV x hx hn
  have hn':x∉F':=λh'=>by
   rcases h.grow x h' with h1|h1
   ·exact hn h1
   ·exact hx h1
  rw[k.bV x (by rw[e];exact hx) hn',e]
 refine⟨hk,λx hx=>?_⟩
 rcases k.grow x hx with h1|h1
 ·exact h.grow x h1
 ·by_cases hf:x∈F
  ·exact .inl hf
  ·right
   cases hm:μ x with
   |none=>rfl
   |some o=>rw[h.bV x (by rw[hm];simp) hf,hm]at h1;cases h1
theorem Mv.sub{μ μ':Mem}{F F' G:List Nat}(h:Mv μ μ' F F')(hG:∀x∈G,x∈F'):Mv μ μ' F G:=⟨h.bV,λx hx=>h.grow x (hG x hx)⟩
theorem Mv.set{μ:Mem}{b:Nat}{o:Option Ob}{F:List Nat}(h:b∈F\/μ b=none):Mv μ (μ.set b o) F (b::F):=⟨λx hx hn=>by
 have:x≠b:=by
  rintro rfl
  rcases h with h|h
  ·exact hn h
  ·exact hx h
 exact Mem.aw _ _ this,λx hx=>by
 rcases List.mem_cons.1 hx with rfl|h1
 ·exact h
 ·exact .inl h1⟩
theorem qf{sz:Nat}:∀{R:Lq} {s:Nat},(∀r∈R,r.length=sz)->s<=R.length->(R.flatten).take (s*sz)=(R.take s).flatten
 |R,0,_,_=>by simp
 |[],s+1,_,h=>by simp at h
 |r::R,s+1,hR,h=>by
  have hr:r.length=sz:=hR r (by simp)
  rw[List.flatten_cons,List.take_succ_cons,List.flatten_cons,Nat.succ_mul,Nat.add_comm,<- hr,List.take_length_add_append,hr,qf (λx hx=>hR x (by simp[hx])) (by simpa using h)]
theorem vk{sz:Nat}:∀{R:Lq} {s:Nat},(∀r∈R,r.length=sz)->s<=R.length->(R.flatten).drop (s*sz)=(R.drop s).flatten
 |R,0,_,_=>by simp
 |[],s+1,_,h=>by simp at h
 |r::R,s+1,hR,h=>by
  have hr:r.length=sz:=hR r (by simp)
  rw[List.flatten_cons,List.drop_succ_cons,Nat.succ_mul,Nat.add_comm,<- hr,List.drop_length_add_append,hr,vk (λx hx=>hR x (by simp[hx])) (by simpa using h)]
theorem Ep{μ:Mem}{b sz s:Nat}{e:TypeId}{R:Lq}{rest r:List PV}(hR:∀r∈R,r.length=sz)(hm:μ b=some (.cells e (R.flatten++rest)))(hs:R[s]?=some r):aN μ b (s*sz) sz=some r:=by
 have bB:s<R.length:=(List.getElem?_eq_some_iff.1 hs).1
 have hr:r.length=sz:=hR r (List.mem_of_getElem? hs)
 have iB:R.flatten.length=R.length*sz:=dw hR
 have hle:s*sz+sz<=R.flatten.length:=by rw[iB,<- Nat.succ_mul];exact Nat.mul_le_mul_right _ bB
 simp only[aN,hm]
 rw[if_pos (by rw[List.length_append];omega),List.drop_append_of_le_length (by omega),vk hR (Nat.le_of_lt bB),List.drop_eq_getElem_cons bB,List.flatten_cons,List.append_assoc]
 have:R[s]=r:=by have:=List.getElem?_eq_getElem bB;rw[hs]at this;exact(Option.some.inj this).symm
 rw[this,<- hr,List.take_left']
 rfl
theorem AG{sz s:Nat}{R:Lq}{rest r:List PV}(hR:∀r∈R,r.length=sz)(hs:s<R.length)(hr:r.length=sz):ei (R.flatten++rest) (s*sz) r=(R.set s r).flatten++rest:=by
 have iB:R.flatten.length=R.length*sz:=dw hR
 have hle:s*sz+sz<=R.flatten.length:=by rw[iB,<- Nat.succ_mul];exact Nat.mul_le_mul_right _ hs
 unfold ei
 rw[List.take_append_of_le_length (by omega),qf hR (Nat.le_of_lt hs),hr,List.drop_append_of_le_length hle,show s*sz+sz=(s+1)*sz by rw[Nat.succ_mul],vk hR hs,List.set_eq_take_append_cons_drop,if_pos hs]
 simp[List.flatten_append]
def ri(Ts e:TypeId)(sz:Nat)(μ:Mem)(b:Nat)(rows:Lq)(F:List Nat):Prop:=
 (F=[b]/\rows=[]/\μ b=some (.cells Ts [.raw (.slice none 0 0),pB false]))\/
 (∃b' c rest,F=[b,b']/\b'≠b/\μ b=some (.cells Ts [.raw (.slice (some ⟨b',0,none⟩) rows.length c),pB false])/\μ b'=some (.cells e (rows.flatten++rest))/\rows.length*sz+rest.length=c*sz/\rows.length<=c)
structure gv(Ts e:TypeId)(sz:Nat)(μ:Mem)(b:Nat)(rows:Lq)(F:List Nat):Prop where
 each:∀r∈rows,r.length=sz
 cell:aE rows.flatten=true
 Ml:(F=[b]/\μ b=some (.cells Ts [.list sz .sh rows,pB true]))\/(F=[b]/\rows=[]/\μ b=some (.cells Ts [.list sz .nil [],pB false]))\/ri Ts e sz μ b rows F
theorem ri.at_{Ts e:TypeId}{sz:Nat}{μ:Mem}{b:Nat}{rows:Lq}{F:List Nat}(h:ri Ts e sz μ b rows F):b∈F/\∀x∈F,μ x≠none:=by
 rcases h with⟨rfl,_,h⟩|⟨b',c,rest,rfl,_,h,h',_⟩
 ·simp[h]
 ·refine⟨by simp,λx hx=>?_⟩
  simp only[List.mem_cons,List.not_mem_nil,or_false]at hx
  rcases hx with rfl|rfl
  ·rw[h];simp
  ·rw[h'];simp
theorem gv.at_{Ts e:TypeId}{sz:Nat}{μ:Mem}{b:Nat}{rows:Lq}{F:List Nat}(h:gv Ts e sz μ b rows F):b∈F/\∀x∈F,μ x≠none:=by
 rcases h.Ml with⟨rfl,h1⟩|⟨rfl,_,h1⟩|h1
 ·simp[h1]
 ·simp[h1]
 ·exact h1.at_
theorem gv.same{Ts e:TypeId}{sz:Nat}{μ μ':Mem}{b:Nat}{rows:Lq}{F:List Nat}(h:gv Ts e sz μ b rows F)(hk:∀x∈F,μ' x=μ x):gv Ts e sz μ' b rows F:=by
 have hb:=hk b h.at_.1
 refine⟨h.each,h.cell,?_⟩
 rcases h.Ml with⟨rfl,h1⟩|⟨rfl,h0,h1⟩|⟨rfl,h0,h1⟩|⟨b',c,rest,rfl,h0,h1,h2,h3⟩
 ·exact .inl ⟨rfl,by rw[hb];exact h1⟩
 ·exact .inr (.inl ⟨rfl,h0,by rw[hb];exact h1⟩)
 ·exact .inr (.inr (.inl ⟨rfl,h0,by rw[hb];exact h1⟩))
 ·exact .inr (.inr (.inr ⟨b',c,rest,rfl,h0,by rw[hb];exact h1,by rw[hk b' (by simp)];exact h2,h3⟩))
theorem ri.slM{Ts e:TypeId}{sz:Nat}{μ:Mem}{b:Nat}{rows:Lq}{F:List Nat}(h:ri Ts e sz μ b rows F)(hr:∀r∈rows,r.length=sz)(hc:aE rows.flatten=true):
  ∃a c μ1,μ b=some (.cells Ts [.raw (.slice a rows.length c),pB false])/\(∀x o,μ1 x=some o->μ x=some o/\x∈F/\x≠b)/\(∀x∈F,x≠b->μ1 x=μ x)/\SlM μ1 a rows.length c sz rows:=by
 rcases h with⟨rfl,rfl,h⟩|⟨b',c,rest,rfl,h0,h1,h2,h3,h4⟩
 ·exact⟨none,0,M0,h,λx o hx=>(by cases hx),λx hx hn=>absurd (by simpa using hx) hn,rfl,Nat.le_refl _,.inl rfl,hr,hc,λh=>absurd rfl h⟩
 ·refine⟨_,c,M0.set b' (μ b'),h1,λx o hx=>?_,λx hx hn=>?_,rfl,h4,.inr λx hx=>by cases hx;rfl,hr,hc,λ_=>⟨b',0,rfl,?_⟩⟩
  ·by_cases e:x=b'
   ·subst e;rw[Mem.ai]at hx;exact⟨hx,by simp,h0⟩
   ·rw[Mem.aw _ _ e]at hx;cases hx
  ·simp only[List.mem_cons,List.not_mem_nil,or_false]at hx
   rw[hx.resolve_left hn,Mem.ai]
  ·have iB:rows.flatten.length=rows.length*sz:=dw hr
   simp only[aN,Mem.ai,h2]
   rw[if_pos (by simp[iB]),List.drop_zero,<- iB,List.take_left']
   rfl
theorem gv.query{P:Program}{g:FuncId}{args:List PV}{Ts e:TypeId}{sz:Nat}{μ:Mem}{b:Nat}{rows:Lq}{F:List Nat}{K:Kq}{Kq:PV->Prop}(h:gv Ts e sz μ b rows F)
  (hc:∀s,ab P g args (M0.set b (some (.ro Ts [.list sz .sh rows,pB s]))) λp _=>Kq p) (hf:∀p,Kq p->p.flat=true) (hk:∀p,Kq p->K p μ):ab P g args μ K:=by
 have one:∀{s:Bool} {μ1:Mem} {c:PV},μ1 b=none->μ b=some (.cells Ts [c,pB s])->mh μ1 c (.list sz .sh rows)->∀x o,(M0.set b (some (.ro Ts [.list sz .sh rows,pB s]))) x=some o->μ1 x=none/\∃T cs ds,o=.ro T ds/\μ x=some (.cells T cs)/\jA μ1 cs ds:=λhn hm hb x o hx=>by
  by_cases e:x=b
  ·subst e
   rw[Mem.ai]at hx
   cases hx
   exact⟨hn,Ts,_,_,rfl,hm,jA.cons hb (jA.refl _ _)⟩
  ·rw[Mem.aw _ _ e]at hx;cases hx
 rcases h.Ml with⟨rfl,hm⟩|⟨rfl,h0,hm⟩|hr
 ·exact ab.query (hc true) (μ1:=M0) (λ_ _ h=>by cases h) (one rfl hm (.same _)) hf hk
 ·subst h0
  exact ab.query (hc false) (μ1:=M0) (λ_ _ h=>by cases h) (one rfl hm (.wk (.list sz .nil []))) hf hk
 ·obtain⟨a,c,μ1,hm,h1,_,hs⟩:=hr.slM h.each h.cell
  refine ab.query (hc false) (μ1:=μ1) (λx o hx=>(h1 x o hx).1) (one ?_ hm (.list hs)) hf hk
  cases hx:μ1 b with
  |none=>rfl
  |some o=>exact absurd rfl (h1 b o hx).2.2
theorem gv.list{Ts e:TypeId}{sz:Nat}{μ:Mem}{b:Nat}{rows:Lq}{F:List Nat}(h:gv Ts e sz μ b rows F):∃μ' s,GU μ μ'/\μ' b=some (.cells Ts [.list sz .sh rows,pB s])/\Mv μ μ' F [b]:=by
 rcases h.Ml with⟨rfl,hm⟩|⟨rfl,h0,hm⟩|hr
 ·exact⟨μ,true,GU.refl μ,hm,Mv.refl _ _⟩
 ·subst h0
  refine⟨μ.set b (some (.cells Ts [.list sz .sh [],pB false])),false,GU.bor (μ1:=M0) (λ_ _ h=>by cases h) λx o hx=>⟨rfl,?_⟩,Mem.ai _ _ _,(Mv.set (.inl (by simp))).sub (by simp)⟩
  by_cases e:x=b
  ·subst e
   rw[Mem.ai]at hx;cases hx
   exact .inr ⟨Ts,_,_,rfl,hm,jA.cons (.wk (.list sz .nil [])) (jA.refl _ _)⟩
  ·rw[Mem.aw _ _ e]at hx;exact .inl hx
 ·obtain⟨a,c,μ1,hm,h1,h2,hs⟩:=hr.slM h.each h.cell
  have hb:μ1 b=none:=by
   cases hx:μ1 b with
   |none=>rfl
   |some o=>exact absurd rfl (h1 b o hx).2.2
  refine⟨λx=>if x=b then some (.cells Ts [.list sz .sh rows,pB false])else if μ1 x=none then μ x else none,false,GU.bor (μ1:=μ1) (λx o hx=>(h1 x o hx).1) λx o hx=>?_,if_pos rfl,⟨λx hx hn=>?_,λx hx=>.inl (by simp at hx;rw[hx];exact hr.at_.1)⟩⟩
  ·by_cases e:x=b
   ·subst e
    rw[if_pos rfl]at hx;cases hx
    exact⟨hb,.inr ⟨Ts,_,_,rfl,hm,jA.cons (.list hs) (jA.refl _ _)⟩⟩
   ·rw[if_neg e]at hx
    split at hx
    ·rename_i hn;exact⟨hn,.inl hx⟩
    ·cases hx
  ·have bm:x≠b:=by rintro rfl;exact hn hr.at_.1
   simp only[if_neg bm]
   rw[if_pos]
   cases yH:μ1 x with
   |none=>rfl
   |some o=>exact absurd (h1 x o yH).2.1 hn
theorem gv.raw{Ts e:TypeId}{sz:Nat}{μ:Mem}{b:Nat}{rows:Lq}{F:List Nat}(h:gv Ts e sz μ b rows F):∃μ',GU μ μ'/\Mv μ μ' F F/\((F=[b]/\μ' b=some (.cells Ts [.list sz .sh rows,pB true]))\/ri Ts e sz μ' b rows F):=by
 rcases h.Ml with⟨rfl,hm⟩|⟨rfl,h0,hm⟩|hr
 ·exact⟨μ,GU.refl μ,Mv.refl _ _,.inl ⟨rfl,hm⟩⟩
 ·subst h0
  refine⟨μ.set b (some (.cells Ts [.raw (.slice none 0 0),pB false])),GU.bor (μ1:=M0) (λ_ _ h=>by cases h) λx o hx=>⟨rfl,?_⟩,(Mv.set (.inl (by simp))).sub (by simp),.inr (.inl ⟨rfl,rfl,Mem.ai _ _ _⟩)⟩
  by_cases e:x=b
  ·subst e
   rw[Mem.ai]at hx;cases hx
   exact .inr ⟨Ts,_,_,rfl,hm,jA.cons (.nil sz []) (jA.refl _ _)⟩
  ·rw[Mem.aw _ _ e]at hx;exact .inl hx
 ·exact⟨μ,GU.refl μ,Mv.refl _ _,.inr hr⟩
theorem ri.app{Ts e:TypeId}{sz:Nat}{μ:Mem}{b:Nat}{rows:Lq}{F:List Nat}(h:ri Ts e sz μ b rows F)(hr:∀r∈rows,r.length=sz):∃a c,μ b=some (.cells Ts [.raw (.slice a rows.length c),pB false])/\
  ∀(r:List PV) (bytes:Nat) (K:Option Addr->Nat->Nat->Mem->Prop),r.length=sz->aE r=true->(rows.length+1)*bytes<=140737488355328->rows.length+1<4611686018427387904->
   (∀b' c' rest μ2,b'≠b->μ2 b=μ b->μ2 b'=some (.cells e ((rows++[r]).flatten++rest))->(rows.length+1)*sz+rest.length=c'*sz->rows.length+1<=c'->Mv μ μ2 F [b,b']->K (some ⟨b',0,none⟩) (rows.length+1) c' μ2)->
   iw sz bytes e a rows.length c (.list sz .nr [r]) μ K:=by
 have Yz:∀r:List PV,ow sz sz [r]=true:=λr=>by simp[ow,Nat.beq_refl]
 have iB:rows.flatten.length=rows.length*sz:=dw hr
 rcases h with⟨rfl,rfl,hm⟩|⟨b0,c,rest,rfl,h0,h1,h2,h3,h4⟩
 ·refine⟨none,0,hm,λr bytes K hl gu hb nH hK=>?_⟩
  unfold iw Ab
  simp only[Yz,cond_true]
  refine⟨by simpa using hb,by simpa using nH,Nat.le_refl _,.inr ⟨by simp,by simpa using gu,λh=>by simp at h,λ_=>⟨[],.inl ⟨rfl,rfl⟩,λb' c' hn jN=>?_⟩⟩⟩
  have bm:b'≠b:=by rintro rfl;rw[hm]at hn;cases hn
  refine hK b' c' (List.replicate ((c'-(0+1))*sz) .au) _ bm (by rw[Mem.aw _ _ (Ne.symm bm)]) ?_ ?_ (by simpa using jN) ((Mv.set (.inr hn)).sub (by simp))
  ·rw[Mem.ai];simp
  ·simp only[List.length_nil,List.length_replicate]
   rw[<- Nat.add_mul];congr 1;simp at jN;omega
 ·refine⟨_,c,h1,λr bytes K hl gu hb nH hK=>?_⟩
  unfold iw Ab
  simp only[Yz,cond_true]
  have eF:aN μ b0 0 (rows.length*sz)=some rows.flatten:=by
   simp only[aN,h2]
   rw[if_pos (by simp[iB]),List.drop_zero,<- iB,List.take_left']
   rfl
  refine⟨by simpa using hb,by simpa using nH,h4,.inr ⟨by simp,by simpa using gu,λhle=>⟨b0,0,e,_,rfl,h2,by simp[iB,h3],?_⟩,λbB=>⟨_,.inr ⟨b0,0,rfl,eF⟩,λb' c' hn jN=>?_⟩⟩⟩
  ·simp only[List.length_singleton]at hle |-
   have Qr:(rows.length+1)*sz<=c*sz:=Nat.mul_le_mul_right _ hle
   have eg:sz<=rest.length:=by rw[Nat.succ_mul]at Qr;omega
   refine hK b0 c (rest.drop sz) _ h0 (by rw[Mem.aw _ _ (Ne.symm h0)]) ?_ ?_ hle ((Mv.set (.inl (by simp))).sub (by simp))
   ·rw[Mem.ai]
    congr 2
    unfold ei
    rw[Nat.zero_add,<- iB,List.take_left' rfl,List.flatten_cons,List.flatten_nil,List.append_nil,List.drop_length_add_append,hl,List.flatten_append]
    simp
   ·rw[List.length_drop,Nat.succ_mul];omega
  ·simp only[List.length_singleton]at jN |-
   have bm:b'≠b:=by rintro rfl;rw[h1]at hn;cases hn
   refine hK b' c' (List.replicate ((c'-(rows.length+1))*sz) .au) _ bm (by rw[Mem.aw _ _ (Ne.symm bm)]) ?_ ?_ jN ((Mv.set (F:=[b,b0]) (.inr hn)).sub (by simp))
   ·rw[Mem.ai];simp
   ·rw[List.length_replicate,<- Nat.add_mul];congr 1;omega
def vD(e:TypeId)(sz:Nat)(μ:Mem)(p:PV)(rows:Lq)(F:List Nat):Prop:=
 (p=.raw (.slice none 0 0)/\rows=[]/\F=[])\/
 (∃b c rest,p=.raw (.slice (some ⟨b,0,none⟩) rows.length c)/\F=[b]/\μ b=some (.cells e (rows.flatten++rest))/\rows.length*sz+rest.length=c*sz/\rows.length<=c)
theorem vD.at_{e:TypeId}{sz:Nat}{μ:Mem}{p:PV}{rows:Lq}{F:List Nat}(h:vD e sz μ p rows F):∀x∈F,μ x≠none:=by
 rcases h with⟨_,_,rfl⟩|⟨b,c,rest,_,rfl,h,_⟩
 ·intro x hx;cases hx
 ·intro x hx;simp at hx;subst hx;rw[h];simp
theorem vD.same{e:TypeId}{sz:Nat}{μ μ':Mem}{p:PV}{rows:Lq}{F:List Nat}(h:vD e sz μ p rows F)(hk:∀x∈F,μ' x=μ x):vD e sz μ' p rows F:=by
 rcases h with h|⟨b,c,rest,h1,rfl,h2,h3⟩
 ·exact .inl h
 ·exact .inr ⟨b,c,rest,h1,rfl,by rw[hk b (by simp)];exact h2,h3⟩
theorem vD.app{e:TypeId}{sz:Nat}{μ:Mem}{p:PV}{rows:Lq}{F:List Nat}(h:vD e sz μ p rows F)(hr:∀r∈rows,r.length=sz):∃a c,p=.raw (.slice a rows.length c)/\
  ∀(r:List PV) (bytes:Nat) (K:Option Addr->Nat->Nat->Mem->Prop),r.length=sz->aE r=true->(rows.length+1)*bytes<=140737488355328->rows.length+1<4611686018427387904->
   (∀b' c' rest μ2,μ2 b'=some (.cells e ((rows++[r]).flatten++rest))->(rows.length+1)*sz+rest.length=c'*sz->rows.length+1<=c'->Mv μ μ2 F [b']->K (some ⟨b',0,none⟩) (rows.length+1) c' μ2)->
   iw sz bytes e a rows.length c (.list sz .nr [r]) μ K:=by
 have Yz:∀r:List PV,ow sz sz [r]=true:=λr=>by simp[ow,Nat.beq_refl]
 have iB:rows.flatten.length=rows.length*sz:=dw hr
 rcases h with⟨rfl,rfl,rfl⟩|⟨b0,c,rest,rfl,rfl,h2,h3,h4⟩
 ·refine⟨none,0,rfl,λr bytes K hl gu hb nH hK=>?_⟩
  unfold iw Ab
  simp only[Yz,cond_true]
  refine⟨by simpa using hb,by simpa using nH,Nat.le_refl _,.inr ⟨by simp,by simpa using gu,λh=>by simp at h,λ_=>⟨[],.inl ⟨rfl,rfl⟩,λb' c' hn jN=>?_⟩⟩⟩
  refine hK b' c' (List.replicate ((c'-(0+1))*sz) .au) _ ?_ ?_ (by simpa using jN) ((Mv.set (.inr hn)).sub (by simp))
  ·rw[Mem.ai];simp
  ·simp only[List.length_nil,List.length_replicate]
   rw[<- Nat.add_mul];congr 1;simp at jN;omega
 ·refine⟨_,c,rfl,λr bytes K hl gu hb nH hK=>?_⟩
  unfold iw Ab
  simp only[Yz,cond_true]
  have eF:aN μ b0 0 (rows.length*sz)=some rows.flatten:=by
   simp only[aN,h2]
   rw[if_pos (by simp[iB]),List.drop_zero,<- iB,List.take_left']
   rfl
  refine⟨by simpa using hb,by simpa using nH,h4,.inr ⟨by simp,by simpa using gu,λhle=>⟨b0,0,e,_,rfl,h2,by simp[iB,h3],?_⟩,λbB=>⟨_,.inr ⟨b0,0,rfl,eF⟩,λb' c' hn jN=>?_⟩⟩⟩
  ·simp only[List.length_singleton]at hle |-
   have Qr:(rows.length+1)*sz<=c*sz:=Nat.mul_le_mul_right _ hle
   have eg:sz<=rest.length:=by rw[Nat.succ_mul]at Qr;omega
   refine hK b0 c (rest.drop sz) _ ?_ ?_ hle ((Mv.set (.inl (by simp))).sub (by simp))
   ·rw[Mem.ai]
    congr 2
    unfold ei
    rw[Nat.zero_add,<- iB,List.take_left' rfl,List.flatten_cons,List.flatten_nil,List.append_nil,List.drop_length_add_append,hl,List.flatten_append]
    simp
   ·rw[List.length_drop,Nat.succ_mul];omega
  ·simp only[List.length_singleton]at jN |-
   refine hK b' c' (List.replicate ((c'-(rows.length+1))*sz) .au) _ ?_ ?_ jN ((Mv.set (F:=[b0]) (.inr hn)).sub (by simp))
   ·rw[Mem.ai];simp
   ·rw[List.length_replicate,<- Nat.add_mul];congr 1;omega
theorem Mem.s_{μ:Mem}{b:Nat}{o:Option Ob}(h:μ b=o):μ.set b o=μ:=by
 funext x
 by_cases e:x=b
 ·subst e;rw[Mem.ai,h]
 ·rw[Mem.aw _ _ e]
theorem Gi{size bytes:Nat}{e:TypeId}{b c:Nat}{rows:Lq}{fl:Fl}{μ:Mem}{cs:List PV}{K:Option Addr->Nat->Nat->Mem->Prop}(hm:μ b=some (.cells e cs))(qx:cs.length=c*size)(hlen:rows.length<=c)(hr:∀r∈rows,r.length=size)(gu:aE rows.flatten=true)
  (hb:rows.length*bytes<=140737488355328) (nH:rows.length<4611686018427387904) (hK:K (some ⟨b,0,none⟩) rows.length c (μ.set b (some (.cells e (rows.flatten++cs.drop (rows.length*size)))))):iw size bytes e (some ⟨b,0,none⟩) 0 c (.list size fl rows) μ K:=by
 have iB:rows.flatten.length=rows.length*size:=dw hr
 unfold iw Ab
 simp only[ow,Nat.beq_refl,cond_true]
 refine⟨by simpa using hb,by simpa using nH,Nat.zero_le _,?_⟩
 by_cases h0:rows.length=0
 ·have:rows=[]:=List.eq_nil_of_length_eq_zero h0
  subst this
  refine .inl ⟨rfl,λh=>absurd rfl h,?_⟩
  simp only[List.flatten_nil,List.nil_append,List.length_nil,Nat.zero_mul,List.drop_zero]at hK
  rw[Mem.s_ hm]at hK
  exact hK
 ·refine .inr ⟨h0,gu,λ_=>⟨b,0,e,cs,rfl,hm,by omega,?_⟩,λh=>by omega⟩
  simp only[Nat.zero_add,Nat.zero_mul]
  have:ei cs 0 rows.flatten=rows.flatten++cs.drop (rows.length*size):=by
   unfold ei;simp[iB]
  rw[this]
  exact hK
theorem aj.down{γ:Type}{body:(Int->γ->Prop)->Int->γ->Prop}{u:γ}{n k:Nat}(hk:k<=n)(hn:n<9223372036854775808)(I:Nat->γ->Prop)(h0:I n u)
  (gp:∀(j:Nat) (u:γ) (next:Int->γ->Prop),k<j->j<=n->I j u->(∀u',I (j-1) u'->next (IntKind.wrap .i64 ((j:Int)-1)) u')->body next (j:Int) u)
  (dH:∀(u:γ) (next:Int->γ->Prop),I k u->body next (k:Int) u):aj body (n:Int) u:=by
 refine⟨λm s w=>∃j:Nat,s=(j:Int)/\k<=j/\j<=n/\m=j-k/\I j w,⟨n-k,n,rfl,hk,Nat.le_refl _,rfl,h0⟩,?_⟩
 rintro m s w ⟨j,rfl,h1,h2,rfl,hI⟩
 by_cases h:k<j
 ·refine gp j w _ h h2 hI λu' hu=>⟨j-1-k,by omega,j-1,?_,by omega,by omega,rfl,hu⟩
  rw[aB (by omega) (by omega)];omega
 ·have:j=k:=by omega
  subst this
  exact dH w _ hI
theorem bM{μ:Mem}{b o n:Nat}{T:TypeId}{cs:List PV}(h:μ b=some (.cells T cs))(hl:o+n<=cs.length):aN μ b o n=some ((cs.drop o).take n):=by simp only[aN,h];rw[if_pos hl]
theorem xW{μ:Mem}{b o n:Nat}{T:TypeId}{cs:List PV}(h:μ b=some (.ro T cs))(hl:o+n<=cs.length):aN μ b o n=some ((cs.drop o).take n):=by simp only[aN,h];rw[if_pos hl]
def Reads(P:Program)(w:World)(n:Nat)(t:TypeId)(cs:List Value):Prop:=∃(H:Type) (enc:TypeId×Value->H) (x:DataW H×List MemPlace),DataW.trod enc P w 0 (λ_=>true) true n t cs=some x
section
variable {P:Program} {w:World} {n:Nat} {t:TypeId} {cs:List Value}
theorem Reads.int{k:IntKind}(ht:P.underlying t=some (.int k))(h:Reads P w n t cs):∃i,cs=[.int k i]/\(Lit.int k i).wf=true:=by
 obtain⟨H,enc,x,h⟩:=h
 cases n with
 |zero=>simp[DataW.trod]at h
 |succ n=>
  unfold DataW.trod at h
  simp only[ht]at h
  split at h<;>simp_all
theorem Reads.bool(ht:P.underlying t=some .bool)(h:Reads P w n t cs):∃b,cs=[.bool b]:=by
 obtain⟨H,enc,x,h⟩:=h
 cases n with
 |zero=>simp[DataW.trod]at h
 |succ n=>
  unfold DataW.trod at h
  simp only[ht]at h
  split at h<;>simp_all
theorem Reads.string(ht:P.underlying t=some .string)(h:Reads P w n t cs):∃s:ByteArray,cs=[.string s]/\s.size<=maxLen:=by
 obtain⟨H,enc,x,h⟩:=h
 cases n with
 |zero=>simp[DataW.trod]at h
 |succ n=>
  unfold DataW.trod at h
  simp only[ht]at h
  split at h<;>simp_all
theorem Reads.struct{fs:Array Field}(ht:P.underlying t=some (.struct fs))(h:Reads P w n t cs):∃m,n=m+1/\cs.length=P.cellsOf t/\∀(i:Nat) (f:Field),fs[i]?=some f->Reads P w m f.type ((cs.drop f.offset).take (P.cellsOf f.type)):=by
 obtain⟨H,enc,x,h⟩:=h
 obtain⟨xs,m,rfl,_,hl,hx,hf⟩:=DataW.trod_struct ht h
 refine⟨m,rfl,hl,λi f hi=>?_⟩
 have:=hf i f hi
 have bB:i<xs.length:=by rw[hx];exact(Array.getElem?_eq_some_iff.1 hi).1
 rw[List.getElem?_eq_getElem bB]at this
 exact⟨H,enc,_,this⟩
theorem tS{a:Addr}{sz:Nat}{cs:List Value}(h:w.cells? 0 a sz=some cs)(hz:sz≠0):a.spot=none/\rd w.heap a.block a.off sz=some cs:=by
 obtain⟨_,hl,hc⟩:=World.cells?_some h
 have h0:=hc 0 (by omega)
 have e0:a.add 0=a:=by simp[Addr.add]
 rw[e0,List.getElem?_eq_getElem (by omega)]at h0
 unfold World.cell? at h0
 split at h0
 ·rename_i c T f hb
  split at h0
  ·cases h0
  ·rename_i hs
   have adK:a.spot=none:=by simpa using hs
   refine⟨adK,?_⟩
   have Aj:∀i,i<sz->c[a.off+i]?=cs[i]?:=by
    intro i hi
    have:=hc i hi
    have e:a.add i=⟨a.block,a.off+i,none⟩:=by
     unfold Addr.add
     split
     ·rename_i h;subst h;obtain⟨_,_,_⟩:=a;simp_all
     ·rfl
    rw[e]at this
    simpa[World.cell?,hb]using this
   have hle:a.off+sz<=c.size:=by
    have:=Aj (sz-1) (by omega)
    rw[List.getElem?_eq_getElem (by omega)]at this
    have:=(Array.getElem?_eq_some_iff.1 this).1
    omega
   rw[xV hb hle]
   congr 1
   refine List.ext_getElem? λi=>?_
   by_cases hi:i<sz
   ·rw[List.getElem?_take_of_lt hi,List.getElem?_drop,<- Aj i hi];simp
   ·rw[List.getElem?_eq_none (by simp;omega),List.getElem?_eq_none (by omega)]
 ·cases h0
theorem LR{H:Gn}{b o m k:Nat}{xs ys:List Value}(h1:rd H b o m=some xs)(h2:rd H b (o+m) k=some ys):rd H b o (m+k)=some (xs++ys):=by
 obtain⟨c,T,f,a1,a2,rfl⟩:=ti h1
 obtain⟨c',T',f',b1,b2,rfl⟩:=ti h2
 rw[a1]at b1
 simp only[Option.some.injEq,Obj.cells.injEq]at b1
 obtain⟨rfl,rfl,rfl⟩:=b1
 rw[xV a1 (by omega)]
 congr 1
 rw[List.take_add,List.drop_drop]
theorem JQ{H:Gn}{b o sz:Nat}(f:Nat->List Value):∀m,m≠0->(∀i,i<m->rd H b (o+i*sz) sz=some (f i))->rd H b o (m*sz)=some ((List.range m).map f).flatten
 |0,h,_=>absurd rfl h
 |1,_,h=>by have:=h 0 (by omega);simpa using this
 |m+2,_,h=>by
  have ih:=JQ f (m+1) (by omega) (λi hi=>h i (by omega))
  have:=LR ih (h (m+1) (by omega))
  rw[List.range_succ,List.map_append,List.flatten_append,show(m+2)*sz=(m+1)*sz+sz by rw[Nat.succ_mul]]
  simpa using this
theorem Reads.slice{e:TypeId}(ht:P.underlying t=some (.slice e))(hz:P.cellsOf e≠0)(h:Reads P w n t cs):∃m a len cap wD,n=m+1/\cs=[.slice a len cap]/\len<=maxLen/\SlR w.heap a len cap (P.cellsOf e) wD/\(∀x∈wD,Reads P w m e x)/\(cap=0\/fW a):=by
 obtain⟨H,enc,x,h⟩:=h
 have hn:∃m,n=m+1:=by
  cases n with
  |zero=>simp[DataW.trod]at h
  |succ n=>exact⟨n,rfl⟩
 obtain⟨m0,rfl⟩:=hn
 rcases DataW.trod_slice ht h with⟨rfl,_⟩|⟨a,len,cap,elems,rest,m,zP,rfl,rfl,hb,hl,hm,hlen,NF,NA,NB⟩
 ·exact⟨m0,none,0,0,[],rfl,rfl,Nat.zero_le _,SlR.nil _ _,by simp,.inl rfl⟩
 ·have zP:m0=m:=by omega
  subst zP
  have hex:∀i,i<len->∃c',(w.cells? 0 (a.add (i*P.cellsOf e)) (P.cellsOf e))=some c'/\Reads P w m0 e c':=by
   intro i hi
   have h1:=NF i hi
   rw[List.getElem?_eq_getElem (by omega)]at h1
   obtain⟨c',h2,h3⟩:=Option.bind_eq_some_iff.1 h1
   exact⟨c',h2,H,enc,_,h3⟩
  have alb:∃f:Nat->List Value,∀i,i<len->w.cells? 0 (a.add (i*P.cellsOf e)) (P.cellsOf e)=some (f i)/\Reads P w m0 e (f i):=by
   classical
   refine⟨λi=>if hi:i<len then Classical.choose (hex i hi)else[],λi hi=>?_⟩
   simp only[dif_pos hi]
   exact Classical.choose_spec (hex i hi)
  obtain⟨f,hf⟩:=alb
  refine⟨m0,some a,len,cap,(List.range len).map f,rfl,rfl,Nat.le_trans hl hm,⟨by simp,hl,?_,λhn=>?_⟩,?_,?_⟩
  ·intro x hx
   obtain⟨i,hi,rfl⟩:=List.mem_map.1 hx
   exact(World.cells?_some (hf i (List.mem_range.1 hi)).1).2.1
  ·have h0:=tS (hf 0 (by omega)).1 hz
   have e0:a.add (0*P.cellsOf e)=a:=by simp[Addr.add]
   rw[e0]at h0
   obtain⟨hs,_⟩:=h0
   obtain⟨b,o,s⟩:=a
   simp only at hs
   subst hs
   refine⟨b,o,rfl,JQ f len hn λi hi=>?_⟩
   have:=(tS (hf i hi).1 hz).2
   have e:(⟨b,o,none⟩:Addr).add (i*P.cellsOf e)=⟨b,o+i*P.cellsOf e,none⟩:=by
    unfold Addr.add
    split
    ·rename_i h;simp[h]
    ·rfl
   rw[e]at this
   exact this
  ·intro x hx
   obtain⟨i,hi,rfl⟩:=List.mem_map.1 hx
   exact(hf i (List.mem_range.1 hi)).2
  ·by_cases hc0:cap=0
   ·exact .inl hc0
   ·right
    have hs:a.spot=none:=by
     by_cases hl0:len=0
     ·have h1:=(NA rfl).2 0 (by omega)
      have Ws:=(NA rfl).1
      rw[List.getElem?_eq_getElem (by omega)]at h1
      obtain⟨c',h2,_⟩:=Option.bind_eq_some_iff.1 h1
      have e0:a.add ((len+0)*P.cellsOf e)=a:=by simp[Addr.add,hl0]
      rw[e0]at h2
      exact(tS h2 hz).1
     ·have h0:=tS (hf 0 (by omega)).1 hz
      have e0:a.add (0*P.cellsOf e)=a:=by simp[Addr.add]
      rw[e0]at h0
      exact h0.1
    intro x hx;cases hx;exact hs
theorem Ez{T:Type}{Z:Fz}{pv:T->List PV}{Q:T->Prop}:∀{wD:List (List Value)},(∀x∈wD,∃s,aY Z (pv s) x/\Q s)->∃l:List T,l.length=wD.length/\aY Z (l.map pv).flatten wD.flatten/\(∀s∈l,Q s)/\∀(i:Nat) s x,l[i]?=some s->wD[i]?=some x->aY Z (pv s) x
 |[],_=>⟨[],rfl,aY.nil Z,by simp,by simp⟩
 |x::wD,h=>by
  obtain⟨s,hr,hs⟩:=h x (by simp)
  obtain⟨l,hl,Ag,hq,hi⟩:=Ez (wD:=wD) λy hy=>h y (by simp[hy])
  refine⟨s::l,by simp[hl],by simpa using hr.append Ag,by simpa using⟨hs,hq⟩,λi s' x' a b=>?_⟩
  cases i with
  |zero=>simp only[List.getElem?_cons_zero,Option.some.injEq]at a b;subst a;subst b;exact hr
  |succ i=>simp only[List.getElem?_cons_succ]at a b;exact hi i s' x' a b
theorem Reads.lK{T:Type}{pv:T->List PV}{Q:T->Prop}{e:TypeId}{sz:Nat}(ht:P.underlying t=some (.slice e))(hc:P.cellsOf e=sz)(hz:sz≠0)(he:∀m cs,m<n->Reads P w m e cs->∃s,aY (fj w) (pv s) cs/\Q s)(h:Reads P w n t cs):
  ∃l:List T,aY (fj w) [.list sz .sh (l.map pv)] cs/\(∀s∈l,Q s)/\l.length<=maxLen:=by
 obtain⟨m,a,len,cap,wD,rfl,rfl,h0,h2,h3,NA⟩:=h.slice ht (by rw[hc];exact hz)
 rw[hc]at h2
 obtain⟨l,hl,Ag,hq,hi⟩:=Ez λx hx=>he m x (by omega) (h3 x hx)
 have xu:l.length=len:=by rw[hl,h2.len]
 refine⟨l,aY.cons rfl ?_ (aY.nil _),hq,by omega⟩
 have gW:∀r∈l.map pv,r.length=sz:=by
  intro r hr
  obtain⟨s,hs,rfl⟩:=List.mem_map.1 hr
  obtain⟨i,hi1⟩:=List.mem_iff_getElem?.1 hs
  have bB:i<wD.length:=by rw[<- hl];exact(List.getElem?_eq_some_iff.1 hi1).1
  have:=hi i s wD[i] hi1 (List.getElem?_eq_getElem bB)
  rw[<- this.1]
  exact h2.each _ (List.getElem_mem bB)
 by_cases hn:len=0
 ·have:l=[]:=List.eq_nil_of_length_eq_zero (by omega)
  subst this
  exact .list sz .sh _ a len cap 0 0 [] (λ_ _=>undef) (by simp[hn]) h2.cap NA (by simp) (λh=>absurd hn h) (λi j hi=>by omega) (by simp) (by simp) trivial
 ·obtain⟨b,o,rfl,hr⟩:=h2.read hn
  obtain⟨A,T',f',hA,hle,hv⟩:=ti hr
  have iB:wD.flatten.length=len*sz:=by rw[FG h2.each,h2.len]
  have:=n_ (Z:=fj w) (sz:=sz) (fl:=.sh) (rows:=l.map pv) (vs:=wD.flatten) (b:=b) (o:=o) (c:=cap) (C:=A.toList) gW Ag (VB hA) (λk hk=>by
   rw[hv]at hk |-
   rw[List.getElem?_take,if_pos (by rw[hv]at iB;omega),List.getElem?_drop]) (by simp[xu,h2.cap]) trivial
  rw[List.length_map,xu]at this
  exact this
theorem Reads.kV{k:IntKind}(ht:P.underlying t=some (.int k))(h:Reads P w n t cs):∃i,aY (fj w) [.raw (.int k i)] cs/\(Lit.int k i).wf=true:=by
 obtain⟨i,rfl,hw⟩:=h.int ht
 exact⟨i,aY.cons rfl (.raw _ rfl rfl) (aY.nil _),hw⟩
theorem Reads.pbool(ht:P.underlying t=some .bool)(h:Reads P w n t cs):∃i,aY (fj w) [pB i] cs:=by
 obtain⟨i,rfl⟩:=h.bool ht
 exact⟨i,aY.cons rfl (.raw _ rfl rfl) (aY.nil _)⟩
theorem Reads.Cn(ht:P.underlying t=some .string)(h:Reads P w n t cs):∃i:ByteArray,aY (fj w) [pS i] cs/\i.size<=maxLen:=by
 obtain⟨i,rfl,hw⟩:=h.string ht
 exact⟨i,aY.cons rfl (.raw _ rfl rfl) (aY.nil _),hw⟩
theorem bW{m:Nat}{fs:Array Field}(hf:∀(i:Nat) (f:Field),fs[i]?=some f->Reads P w m f.type ((cs.drop f.offset).take (P.cellsOf f.type)))(i off:Nat){ty k:Nat}(h3:P.cellsOf ty=k){f:Field}(hi:fs[i]?=some f)(h1:f.type=ty)(h2:f.offset=off):Reads P w m ty ((cs.drop off).take k):=by
 subst h1 h2 h3;exact hf i f hi
section
variable {H:Type} {enc:TypeId×Value->H} {r:Reach} {base:Nat} {v:Value} {d:DataW H} {p:List MemPlace}
theorem Reads.of(h:DataW.Trod enc P w 0 (λ_=>true) true t v d p):∃n,Reads P w n t v.cells.toList:=let ⟨n,hn⟩:=h;⟨n,H,enc,_,hn⟩
end
end
end Go.az
