import Derived.Test.YthaeiehophlooaaGreatB04
open Bool (and_eq_true not_eq_true' or_eq_false_iff)
open List (all_eq_true append_nil drop_zero eq_nil_of_length_eq_zero flatten_append flatten_cons flatten_nil getElem?_drop getElem?_eq_getElem getElem?_take length_append length_drop length_nil length_replicate length_singleton map_cons mem_cons mem_map mem_of_getElem? prefix_refl range replicate take_left')
open Nat (add_mul beq beq_refl ble le_refl le_trans mul_le_mul_right succ_mul zero_add zero_le)
open Option (map_some)
set_option linter.all false
namespace Go.aP
open Go.RowKit
def KZ{size i:Nat}{e:Lq}(h:qJ size i e=true):i=size\/e=[]:=by
 unfold qJ at h;cases j:beq i size with
 |true=>exact .inl (beq_iff.1 j)
 |false=>
  rw[j]at h;simp only[cond_false]at h;split at h
  .exact .inr rfl
  .cases h
def Ext.sub{Z j:Fz}{μ μ' e:Mem}{N:Nat}(h:Ext Z μ N j μ')(x:e.sub μ'):Ext Z μ N j e:=
 ⟨h.le,h.zs,h.zn,λb y=>by
  cases i:e b with
  |none=>exact absurd i y
  |some o=>exact h.mn b (by rw[x b o i];simp),h.lt⟩
def bW.size{Z:Fz}{i size:Nat}{fl:Fl}{e:Lq}{w:Value}(h:bW Z (.list i fl e) w)(j:qJ size i e=true):bW Z (.list size fl e) w:=by
 rcases KZ j with rfl|rfl
 .exact h
 .exact h.FT
def MO{Z:Fz}{i:Nat}{fl:Fl}{e:Lq}{w:Value}(h:bW Z (.list i fl e) w):∀r∈e,r.length=i:=by
 cases h;assumption
def Wh{P:Program}{e:TypeId}{size j zl:Nat}(h:(P.info? e).map (λi=>(i.size,i.bytes,i.zero.map λz=>z.cells.toList.length))=some (size,j,some zl)):
  ∃zero:List Value,(P.info? e).map (λi=>(i.size,i.bytes,i.zero.map λz=>z.cells.toList))=some (size,j,some zero)/\zero.length=zl:=by
 cases y:P.info? e with
 |none=>rw[y]at h;cases h
 |some i=>
  rw[y]at h;simp only[map_some,Option.some.injEq,Prod.mk.injEq]at h;obtain⟨C,A,x⟩:=h;cases hz:i.zero with
  |none=>rw[hz]at x;cases x
  |some z=>
   rw[hz]at x;simp only[map_some,Option.some.injEq]at x;exact⟨z.cells.toList,by simp[C,A,hz],x⟩
section
variable {E:kM} {q:Bool} {fz:List Nat} {o:Oper} {p:dK} {s:St} {μ:Mem} {u:UW} {KP:dK->Mem->Prop} {K:St->UW->Prop} {Z:Fz}
def Mc{P:Program}{e:TypeId}{size j:Nat}{zero:List Value}{fl:Fl}{rows new:Lq}{fy:Fl}{xa yb:Option Addr}{n cap m Qw:Nat}{KF:Fl->Mem->Prop}{KV:Value->UW->Prop}(hg:Good Z u μ)(hw:Wf u)
  (ht:(P.info? e).map (λi=>(i.size,i.bytes,i.zero.map λz=>z.cells.toList))=some (size,j,some zero)) (Ev:zero.length=size) (Pd:size≠0)
  (A:bW Z (.list size fl rows) (.slice xa n cap)) (hy:bW Z (.list size fy new) (.slice yb m Qw)) (h:aR q size j fl rows new μ KF)
  (hK:∀(Z':Fz) (Y:Mem) (kA:Fl) (v:Value) (u':UW),Ext Z μ u.heap.size Z' Y->Good Z' u' Y->Wf u'->u.heap.size<=u'.heap.size->(q=true->Below u.heap.size u.toWorld u'.toWorld)->bW Z' (.list size kA (rows++new)) v->KF kA Y->KV v u'):
  PN P e xa n cap yb m u λa n' c' u'=>KV (.slice a n' c') u':=by
 obtain⟨WJ,qp,h⟩:=h;obtain⟨_,_,_,ex,G,hxc,hxs,hxf⟩:=A.ofList;cases ex;obtain⟨_,_,_,ey,I,hyc,hys,hyf⟩:=hy.ofList;cases ey;obtain⟨O,rx,lx,zx,nx⟩:=tM hg A (λ_=>Pd);obtain⟨y,ry,ly,zy,ny⟩:=tM hg hy (λ_=>Pd);rw[G,I]at WJ qp;have eh:∀r∈rows++new,r.length=size:=λr Q=>(List.mem_append.1 Q).elim (MO A r) (MO hy r);have SB:new=[]↔m=0:=by
  constructor
  .rintro rfl;simpa using I.symm
  .intro h0;exact eq_nil_of_length_eq_zero (by omega)
 refine⟨size,j,zero,O,y,ht,zy,λU=>?_,zx,λhn=>?_,hxc,WJ,qp,Ev,λv hv=>(ry.xV v hv).2,λvV=>?_,λcM=>?_⟩
 .obtain⟨b,o,C,rfl,_,Q,_⟩:=ny U;exact Q
 .obtain⟨b,o,C,rfl,_,Q,_⟩:=nx hn;exact Q
 .by_cases U:m=0
  .left;refine⟨U,?_⟩;have:=SB.2 U;subst this;exact hK Z μ fl _ u hg.ext hg hw (le_refl _) (λ_=>Below.refl _ _) (by rw[append_nil];exact A) h
  .right;refine⟨U,?_⟩;have aW:new≠[]:=λe=>U (SB.1 e);have h:Xu q size fl rows.length new.length μ KF:=by
    unfold aby at h;cases new with
    |nil=>exact absurd rfl aW
    |cons r rs=>exact h
   cases fl with
   |sh=>exact h.elim
   |nr=>have:cap=n:=hxf;omega
   |nil=>obtain⟨_,h1,h2⟩:xa=none/\n=0/\cap=0:=hxf;omega
   |nM b c=>
    obtain⟨rfl,rfl⟩:xa=some ⟨b,0,none⟩/\cap=c:=hxf;cases q with
    |true=>exact h.elim
    |false=>
     obtain⟨Yn,h⟩:=h;show uo b (0+n*size) y u _;rw[zero_add];rw[G]at Yn;have hle:n*size+m*size<=cap*size:=by rw[<- add_mul];exact mul_le_mul_right _ vV
     refine hg.grow Yn (by rw[ly];exact hle) (λw' C hC hCl g1 L fK hwf=>?_) hw;have Z_:O=C:=by
      by_cases Qp:n=0
      .rw[zx Qp];exact(eq_nil_of_length_eq_zero (by rw[hCl,Qp];simp)).symm
      .obtain⟨b',o',C',e1,e2,_,e4⟩:=nx Qp;simp only[Option.some.injEq,Addr.mk.injEq]at e1;obtain⟨rfl,rfl,_⟩:=e1;rw[hC]at e2;cases e2;rw[e4,drop_zero,<- hCl,List.take_length]
     have aju:(μ.set b none).set b (some (.nM ((rows.length+new.length)*size) (cap*size)))=μ.set b (some (.nM (n*size+y.length) (cap*size))):=by
      funext x;by_cases e:x=b
      .subst e;simp[G,I,ly,add_mul]
      .rw[Mem.ax _ _ e,Mem.ax _ _ e,Mem.ax _ _ e]
     have hk:=h b cap (.inl rfl) (by rw[G,I];exact vV);rw[aju]at hk;refine hK _ _ _ _ _ L g1 hwf fK (λh=>by cases h) ?_ hk;have sS:=qC (Z:=Z.set b (C++y)) (sz:=size) (fl:=.nM b cap) (rows:=rows++new) (vs:=O++y) (b:=b) (o:=0) (c:=cap) (C:=C++y) eh (by rw[flatten_append];exact(rx.mono L.le).append (ry.mono L.le)) (Fz.ao _ _ _) (λk _=>by rw[Z_,zero_add]) (by rw[length_append,G,I];exact vV) ⟨rfl,rfl⟩;rw[length_append,G,I]at sS;exact sS
 .intro c b rest w' hc sS J;have U:m≠0:=by omega
  have aW:new≠[]:=λe=>U (SB.1 e);have h:Xu q size fl rows.length new.length μ KF:=by
   unfold aby at h;cases new with
   |nil=>exact absurd rfl aW
   |cons r rs=>exact h
  have hlen:(O++y).length=(rows.length+new.length)*size:=by rw[length_append,lx,ly,G,I,add_mul]
  obtain⟨g1,L,g3⟩:=hg.afC J (C:=O++y) (List.prefix_append _ _) (m:=c*size) (by
   simp only[List.size_toArray,length_append,lx,ly,sS]
   rw[<- add_mul,<- add_mul];exact mul_le_mul_right _ (by omega))
  rw[hlen]at g1 L;have eR:bW (Z.set b (O++y)) (.list size (.nM b c) (rows++new)) (.slice (some ⟨b,0,none⟩) (n+m) c):=by
   have Q:=qC (Z:=Z.set b (O++y)) (sz:=size) (fl:=.nM b c) (rows:=rows++new) (vs:=O++y) (b:=b) (o:=0) (c:=c) (C:=O++y) eh (by rw[flatten_append];exact(rx.mono L.le).append (ry.mono L.le)) (Fz.ao _ _ _) (λk _=>by rw[zero_add]) (by rw[length_append,G,I];exact hc) ⟨rfl,rfl⟩;rw[length_append,G,I]at Q;exact Q
  cases fl with
  |sh=>exact h.elim
  |nr=>exact hK _ _ _ _ _ L g1 (hw.born J) J.below.size (λ_=>J.below) eR (h b c g3 (by rw[G,I];exact hc))
  |nil=>exact hK _ _ _ _ _ L g1 (hw.born J) J.below.size (λ_=>J.below) eR (h b c g3 (by rw[G,I];exact hc))
  |nM b0 c0=>
   cases q with
   |true=>exact h.elim
   |false=>
    obtain⟨_,h⟩:=h;have iQ:((μ.set b0 none).set b (some (Ob.nM ((rows.length+new.length)*size) (c*size)))).sub (μ.set b (some (Ob.nM ((rows.length+new.length)*size) (c*size)))):=by
     intro x ob A;by_cases e:x=b
     .subst e;rw[Mem.ao]at A |-;exact A
     .rw[Mem.ax _ _ e]at A |-;by_cases e':x=b0
      .subst e';rw[Mem.ao]at A;cases A
      .rw[Mem.ax _ _ e']at A;exact A
    exact hK _ _ _ _ _ (L.sub iQ) (g1.sub iQ) (hw.born J) J.below.size (λ_=>J.below) eR (h b c (.inr g3) (by rw[G,I];exact hc))
def Mb{P:Program}{e:TypeId}{size j:Nat}{zero:List Value}{y:PV}{U yb:Option Addr}{n cap m Qw:Nat}{KR:Option Addr->Nat->Nat->Mem->Prop}{KV:Value->UW->Prop}(O:Good Z u μ)(hw:Wf u)
  (ht:(P.info? e).map (λi=>(i.size,i.bytes,i.zero.map λz=>z.cells.toList))=some (size,j,some zero)) (Ev:zero.length=size) (Pd:size≠0)
  (hy:bW Z y (.slice yb m Qw)) (h:eB size j e U n cap y μ KR)
  (hK:∀(μ':Mem) (a':Option Addr) (n' Q:Nat) (u':UW),Ext Z μ u.heap.size Z μ'->Good Z u' μ'->Wf u'->u.heap.size<=u'.heap.size->KR a' n' Q μ'->KV (.slice a' n' Q) u'):
  PN P e U n cap yb m u λa n' Q u'=>KV (.slice a n' Q) u':=by
 unfold eB FV at h
 obtain⟨I,new,iH,zy,ny,WJ,qp,Y,h,IG⟩:∃(I:List Value) (new:List PV),cQ Z new I/\(m=0->I=[])/\(m≠0->bh yb λb o=>rd u.heap b o (m*size)=some I)/\(n+m)*j<=140737488355328/\n+m<4611686018427387904/\n<=cap/\((m=0/\(n≠0->∃b o Dh,U=some ⟨b,o,none⟩/\ay μ b o (n*size)=some Dh)/\KR U n cap μ)\/(m≠0/\aV new=true/\
  (n+m<=cap->∃b o T cs,U=some ⟨b,o,none⟩/\μ b=some (.cells T cs)/\o+cap*size<=cs.length/\KR U (n+m) cap (μ.set b (some (.cells T (du cs (o+n*size) new)))))/\
  (cap<n+m->∃Dh,((n=0/\Dh=[])\/∃b o,U=some ⟨b,o,none⟩/\ay μ b o (n*size)=some Dh)/\∀b' Q,μ b'=none->n+m<=Q->KR (some ⟨b',0,none⟩) (n+m) Q (μ.set b' (some (.cells e (Dh++new++replicate ((Q-(n+m))*size) .aU)))))))/\(m≠0->I.length=m*size):=by
  split at h
  .rename_i sz fl rows;obtain⟨fK,h⟩:=aq h;have Lj:=hy.size fK;obtain⟨_,_,_,ey,Nh,_⟩:=Lj.ofList;cases ey;rw[Nh]at h;obtain⟨I,ry,ly,zy,ny⟩:=tM O Lj (λ_=>Pd);exact⟨I,_,ry.m,zy,λL=>by obtain⟨b,o,C,rfl,_,hr,_⟩:=ny L;exact hr,h.1,h.2.1,h.2.2.1,h.2.2.2,λ_=>ly⟩
  .rename_i b o m' Q;have ev:=hy.ofRaw.1;simp only[Value.slice.injEq]at ev;obtain⟨rfl,rfl,rfl⟩:=ev;obtain⟨cs,nu,h⟩:=h;obtain⟨G,x,L⟩:=vB O nu;have IG:=Rm x;refine⟨G,cs,L,λh0=>?_,λ_=>x,h.1,h.2.1,h.2.2.1,h.2.2.2,λ_=>IG⟩;rw[h0]at IG;exact eq_nil_of_length_eq_zero (by simpa using IG)
  .exact h.elim
 rcases h with⟨L,J,hk⟩|⟨L,Ez,fL,fP⟩
 .by_cases hn:n=0
  .refine⟨size,j,zero,[],I,ht,zy,ny,λ_=>rfl,λh=>absurd hn h,Y,WJ,qp,Ev,λv x=>?_,λ_=>.inl ⟨L,hK μ U n cap u O.ext O hw (le_refl _) hk⟩,λbK=>by omega⟩;rw[zy L]at x;cases x
  .obtain⟨b,o,Dh,rfl,dF⟩:=J hn;obtain⟨G,x,_⟩:=vB O dF;refine⟨size,j,zero,G,I,ht,zy,ny,λh=>absurd h hn,λ_=>x,Y,WJ,qp,Ev,λv x=>?_,λ_=>.inl ⟨L,hK μ _ n cap u O.ext O hw (le_refl _) hk⟩,λbK=>by omega⟩;rw[zy L]at x;cases x
 .have hc:=iH.c Ez;have IG:=IG L;have UK:new.length=m*size:=by rw[<- hc.1,IG]
  by_cases vV:n+m<=cap
  .obtain⟨b,o,T,cs,rfl,hmb,fK,hk⟩:=fL vV;obtain⟨hp,_,A,hA,hcA⟩:=O.mem b _ hmb;have WN:A.size=cs.length:=by have:=hcA.1;simpa using this
   have hle:n*size+m*size<=cap*size:=by rw[<- add_mul];exact mul_le_mul_right _ vV
   refine⟨size,j,zero,if n=0 then[]else(A.toList.drop o).take (n*size),I,ht,zy,ny,λh=>by simp[h],λh=>?_,Y,WJ,qp,Ev,λv x=>(hc.xV v x).2,λ_=>.inr ⟨L,?_⟩,λbK=>by omega⟩
   .rw[if_neg h];exact Bk hA (by omega)
   .exact O.store hmb (by rw[UK];omega) iH λw' hs g1 g2=>hK _ _ _ _ _ g2 g1 (hw.Ka hs) hs.size hk
  .obtain⟨Dh,J,hk⟩:=fP (by omega);have fin:∀G:List Value,cQ Z Dh G->G.length=n*size->(n=0->G=[])->(n≠0->bh U λb o=>rd u.heap b o (n*size)=some G)->PN P e U n cap yb m u λa n' Q u'=>KV (.slice a n' Q) u':=by
    intro G Gf amn h0 h1;refine⟨size,j,zero,G,I,ht,zy,ny,h0,h1,Y,WJ,qp,Ev,λv x=>(hc.xV v x).2,λh=>absurd h vV,λ_ c b rest w' Nr sS hB=>?_⟩
    have ju:cQ Z (replicate ((c-(n+m))*size) .aU) rest:=⟨by simp[sS],λi p v hp _=>by
     rw[List.getElem?_replicate]at hp
     split at hp
     .cases hp;exact .aU _
     .cases hp⟩
    obtain⟨g1,g2,g3⟩:=O.born hB (cs:=Dh++new++replicate ((c-(n+m))*size) .aU) ((Gf.append iH).append ju);exact hK _ _ _ _ _ g2 g1 (hw.born hB) hB.below.size (hk b c g3 Nr)
   rcases J with⟨hn,rfl⟩|⟨b,o,rfl,dF⟩
   .exact fin [] (cQ.nil Z) (by simp[hn]) (λ_=>rfl) (λh=>absurd hn h)
   .obtain⟨G,x,sU⟩:=vB O dF;have hl:=Rm x;exact fin G sU hl (λh0=>eq_nil_of_length_eq_zero (by rw[hl,h0];simp)) (λ_=>x)
def PU{P:Program}{e:TypeId}{x y:PV}{xa Y:Option Addr}{n cap m Qw:Nat}{KP:Kq}{KV:Value->UW->Prop}(hg:Good Z u μ)(hw:Wf u)(hx:bW Z x (.slice xa n cap))(hy:bW Z y (.slice Y m Qw))(h:NR P q e x y μ KP)(hK:NY q Z μ u KP KV):
  PN P e xa n cap Y m u λa A Q u'=>KV (.slice a A Q) u':=by
 unfold NR at h;split at h
 .rename_i size U zl C;obtain⟨hc,h⟩:=aq h;simp only[and_eq_true,beq_iff,not_eq_true']at hc;obtain⟨zero,ht,Ev⟩:=Wh C;have Pd:size≠0:=λe=>by
   have:=hc.2;rw[e]at this;cases this
  split at h
  .rename_i sz fl rows Vk kA new;obtain⟨j,h⟩:=aq h;simp only[and_eq_true]at j;exact Mc hg hw ht (Ev.trans hc.1) Pd (hx.size j.1) (hy.size j.2) h λZ' i kA v u' O L J I G e6 e7=>hK Z' i _ v u' O L J I G e6 e7
  .rename_i a A Q;have ev:=hx.ofRaw.1;simp only[Value.slice.injEq]at ev;obtain⟨rfl,rfl,rfl⟩:=ev;cases q with
   |true=>exact h.elim
   |false=>
    simp only[cond_false]at h;exact Mb hg hw ht (Ev.trans hc.1) Pd hy h λi a' A Q u' O L J I G=>hK Z i _ _ u' O L J I (λh=>by cases h) (.raw _ rfl rfl) G
  .exact h.elim
 .exact h.elim
def DN{r:Bool}{x:PV}{v:Value}(h:bW Z x v):bW Z (AB r x) v:=by
 unfold AB;cases r with
 |false=>exact h
 |true=>
  simp only[cond_true];split
  .obtain⟨a,n,c,rfl,_,_,_,e⟩:=h.ofList;obtain⟨rfl,rfl,rfl⟩:=e;exact .raw _ rfl rfl
  .exact h
def Ea{lb:List Nat}{k:Nat}:∀{cs:List PV} {e:List Value} (i:Nat),bx Z cs e->bx Z (Rn lb k i cs) e
 |[],e,i,h=>h
 |c::cs,e,i,h=>by
  obtain⟨v,y,rfl,hc,j,x⟩:=h.inv
  refine bx.cons ?_ (DN j) (Ea (i+1) x);unfold AB;cases cT lb k||cT lb (2000000+1000*k+i)with
  |false=>exact hc
  |true=>
   simp only[cond_true];split
   .rfl
   .exact hc
def qD{lb:List Nat}{k:Option Nat}{cs:List PV}{e:List Value}(h:bx Z cs e):bx Z (OC lb k cs) e:=by
 cases k with
 |none=>exact h
 |some k=>exact Ea 0 h
def Pv{P:Program}{r:Bool}{t:TypeId}{F:Kq}{G:Value->Prop}{i:PV}{v:Value}{e:Mem}{A:Fz}(hp:bW A i v)(h:Px P r t λj=>i=j/\F j e)(C:F i e->G v):Qu P t λy=>v=y/\G y:=by
 obtain⟨j,⟨rfl,I⟩,x⟩:=Pw (Z:=A) h;exact x hp ⟨rfl,C I⟩
def Ms{q:Bool}{KP:dK->Mem->Prop}{K:St->UW->Prop}(y:dt Z p s)(hK:va q Z μ u KP K)(r:Bool)(t:TypeId):NY q Z μ u (λv e=>Px E.P r t λh=>v=h/\KP (cW o p h) e) (λv u'=>Qu E.er.P t λh=>v=h/\K (fin o s h) u'):=
 λQ e U v u' j O L J I i C=>Pv (F:=λx e=>KP (cW o p x) e) (G:=λh=>K (fin o s h) u') i C λA=>hK Q _ e _ u' ((y.mono j.le).fin o i) O L j J I A
def mj(A:dt Z p s)(J:Good Z u μ)(Q:Wf u)(hK:va q Z μ u KP K)(h:V1 E q fz o p μ KP):W1 E.er fz o s u K:=by
 have hK0:∀p' s',dt Z p' s'->KP p' μ->K s' u:=λp' s' h1 h2=>hK Z p' μ s' u h1 J Q J.ext (le_refl _) (λ_=>Below.refl _ _) h2;by_cases gF:bF o=true
 .cases hl:oY o with
  |false=>exact GV A gF hl hK0 h
  |true=>exact tL A J (Fz.le.refl Z) (.inr J) hl hK0 h
 .unfold bF at gF;unfold V1 at h;unfold W1;simp only at h |-;cases Nk:o.op<;>simp only[Nk]at h gF |- <;>first|(exact absurd trivial gF)|(exact h.elim)|skip
  case alloc t=>
   cases hz:(E.P.info? t).bind (·.zero)with
   |none=>rw[hz]at h;exact h.elim
   |some z=>
    rw[hz]at h;have Li:(E.er.P.info? t).bind (·.zero)=some z:=hz;rw[Li];obtain⟨aJ,h⟩:=aq h;have I:bW Z (nJ E.P t z) z:=(Ak Z z).gp;exact By A J Q hK (qD (I.cells aJ)) h
  case box t x=>
   obtain⟨aJ,h⟩:=aq h;have G:=A.ev x;rw[G.plain aJ];simp only[cond_true];have I:=G.gp (P:=E.P) (t:=t);exact By A J Q hK (qD (I.cells (by rw[oS];exact aJ))) h
  case buildSlice t len ps=>
   obtain⟨hc,h⟩:=aq h;simp only[and_eq_true]at hc;have nH:(ps.toList.all λp=>plain (ev s.σ p.2))=true:=by
    rw[all_eq_true];exact λx G=>(A.ev x.2).plain (all_eq_true.1 hc.1 x G)
   rw[nH,hc.2];simp only[Bool.and_self,cond_true];cases O:wm E.P t with
   |none=>rw[O]at h;exact h.elim
   |some e=>
    rw[O]at h;have Nq:wm E.er.P t=some e:=O;rw[Nq];simp only at h |-;split at h
    .rename_i rows hb
     obtain⟨w,hwl,I,hl,sS⟩:=Ct (Z:=Z) (vs:=ps.toList.map λp=>(p.1,ev s.σ p.2)) (by simp) (λi x y a b=>by
      rw[List.getElem?_map]at a b
      cases hi:ps.toList[i]? with
      |none=>rw[hi]at a;cases a
      |some z=>
       rw[hi]at a b
       simp only[map_some,Option.some.injEq]at a b
       subst a;subst b
       exact⟨rfl,by rw[oS];exact all_eq_true.1 hc.1 z (mem_of_getElem? hi),(A.ev z.2).gp⟩) hb
     have ahP:pf (E.er.P.cellsOf e) 0 (ps.toList.map λp=>(p.1,ev s.σ p.2))=some w:=hwl;rw[ahP];obtain⟨hc2,h⟩:=aq h;have aiO:(ble w.length 65536&&((E.er.P.info? e).bind (·.zero)).isSome&& !Nat.beq (E.er.P.cellsOf e) 0)=true:=by rw[I.1];exact hc2
     simp only[aiO,cond_true];intro b w' L;cases hwr:acK E o with
     |true=>
      rw[hwr]at h;obtain⟨g1,Y,g3⟩:=J.born L (cs:=OC E.lb o.dst rows.flatten) (qD I).m;exact hK Z _ _ _ _ (A.fin o (.raw _ rfl rfl)) g1 (Q.born L) Y L.below.size (λ_=>L.below) (h b g3)
     |false=>
      rw[hwr]at h;obtain⟨g1,Y⟩:=J.YR L;refine hK _ _ μ _ _ ((A.mono Y.le).fin o ?_) g1 (Q.born L) Y L.below.size (λ_=>L.below) h;have hlen:rows.length=len:=by
       have:=beq_iff.1 hc.2;rw[hl,<- this];simp
      have:=qC (Z:=Z.set b w.toArray.toList) (sz:=E.P.cellsOf e) (fl:=.nr) (rows:=rows) (vs:=w) (b:=b) (o:=0) (c:=rows.length) (C:=w) sS (I.mono Y.le) (Fz.ao _ _ _) (λk _=>by rw[zero_add]) (le_refl _) rfl;rw[hlen]at this;exact this
    .exact h.elim
  case store t x y=>
   obtain⟨hc,h⟩:=aq h;simp only[and_eq_true,beq_iff]at hc;have U:=A.ev y;have G:=A.ev x;have I:=(U.gp (P:=E.P) (t:=t)).cells (by rw[oS];exact hc.1.1);have fK:(ev s.σ y).cells.size=(gp E.P t (sX p.σ y)).cells.length:=by have:=I.1;simpa using this
   have Nr:(plain (ev s.σ y)&&beq (ev s.σ y).cells.size (E.er.P.cellsOf t)&&eN (ev s.σ y).cells.toList&&(E.er.P.info? t).isSome)=true:=by
    have h2:(E.er.P.info? t).isSome=true:=hc.2;rw[U.plain hc.1.1,fK,hc.1.2,kq I,h2];have:beq (E.P.cellsOf t) (E.er.P.cellsOf t)=true:=beq_refl _;rw[this];rfl
   rw[Nr];simp only[cond_true];split at h
   .rename_i k off O;rw[O]at G;rw[G.zf];simp only;rw[<- A.D];split at h
    .rename_i m hm;rw[hm];simp only;obtain⟨hb,h⟩:=aq h;rw[fK,hb];simp only[cond_true];exact hK0 {p with σ:=KQ (Fa p.σ k off (gp E.P t (sX p.σ y)).cells) o.dst (.aB [])} _ ⟨rfl,fC.put (fC.rG A.slot I.m) (br.vk (vs:=[]) (br.nil Z))⟩ h
    .exact h.elim
   .cases q with
    |true=>exact h.elim
    |false=>
     simp only[cond_false]at h;unfold aM at h;split at h
     .rename_i b off O;rw[O]at G;rw[G.ofRaw.1];show dT (.pointer (some ⟨b,off,none⟩)) _;unfold dT;simp only;obtain⟨T,cs,hm,hl,h⟩:=h;exact J.store hm hl (qD I).m λw' hs g1 Y=>hK Z _ _ _ _ (A.fin o (br.vk (vs:=[]) (br.nil Z))) g1 (Q.Ka hs) Y hs.size (λh=>by cases h) h
     .exact h.elim
  case makeSlice t x y=>
   have G:=A.ev x;have U:=A.ev y;split at h
   .rename_i e k i k' j hu O hj;have gw:E.er.P.underlying t=some (.slice e):=hu;rw[O]at G;rw[hj]at U;rw[gw,G.ofRaw.1,U.ofRaw.1];simp only;cases hi:E.P.info? e with
    |none=>rw[hi]at h;exact h.elim
    |some inf=>
     rw[hi]at h;have tX:E.er.P.info? e=some inf:=hi;rw[tX];simp only[map_some]at h |-;cases hz:inf.zero with
     |none=>rw[hz]at h;exact h.elim
     |some z=>
      rw[hz]at h;simp only[map_some]at h |-;obtain⟨hc,g1,Y,g3,g4,h⟩:=aq h;simp only[and_eq_true,beq_iff]at hc;have I:bW Z (nJ E.P e z) z:=(Ak Z z).gp;have hrc:bx Z (nJ E.P e z).cells z.cells.toList:=by
       cases hk:(nJ E.P e z).ok with
       |true=>exact I.cells hk
       |false=>
        exfalso;have h3:=hc.2;cases hzp:nJ E.P e z<;>rw[hzp]at hk h3<;>simp[PV.ok,PV.cell,PV.cells,aV]at hk h3
      have sV:(beq z.cells.toList.length inf.size&& !Nat.beq inf.size 0)=true:=by
       rw[hrc.1,hc.1.1,hc.1.2];simp
      rw[sV];simp only[cond_true];refine⟨g1,Y,g3,g4,λb w' L=>?_⟩;have UJ:∀n:Nat,cQ Z (replicate n (nJ E.P e z).cells).flatten (replicate n z.cells.toList).flatten:=by
       intro n;induction n with
       |zero=>exact cQ.nil Z
       |succ n ih=>rw[List.replicate_succ,List.replicate_succ,flatten_cons,flatten_cons];exact hrc.m.append ih
      obtain⟨d1,d2,d3⟩:=J.born L (cs:=(replicate j.toNat (nJ E.P e z).cells).flatten) (UJ _);exact hK Z _ _ _ _ (A.fin o (.raw _ rfl rfl)) d1 (Q.born L) d2 L.below.size (λ_=>L.below) (h b d3)
   .exact h.elim
  case call c=>
   obtain⟨cal,args,ats⟩:=c;cases cal with
   |builtin b=>
    simp only at h gF |-;unfold V1b at h;unfold W1b;generalize args.toList=al at h |-;generalize ats.toList=tl at h |-;cases b<;>first|(exact absurd rfl gF)|(exact h.elim)|skip
    match al,tl,h with
    |[x,y],[t,t'],h=>
     simp only at h |-;have G:=DN (r:=xQ E o) (A.ev x);have U:=A.ev y;split at h
     .rename_i e e' hu Hs;have gw:E.er.P.underlying t=some (.slice e):=hu;have ahV:E.er.P.underlying t'=some (.slice e'):=Hs;rw[gw,ahV];have sl:∀{pp:PV} {v:Value},bW Z pp v->(∃sz fl rows,pp=.list sz fl rows)\/(∃a n c,pp=.raw (.slice a n c))->∃a n c,v=.slice a n c:=by
       rintro pp v hv (⟨sz,fl,rows,rfl⟩|⟨a,n,c,rfl⟩)
       .obtain⟨a,n,c,rfl,_⟩:=hv.ofList;exact⟨a,n,c,rfl⟩
       .exact⟨a,n,c,hv.ofRaw.1⟩
      have UI:((∃sz fl rows,AB (xQ E o) (sX p.σ x)=.list sz fl rows)\/(∃a n c,AB (xQ E o) (sX p.σ x)=.raw (.slice a n c)))/\((∃sz fl rows,sX p.σ y=.list sz fl rows)\/(∃a n c,sX p.σ y=.raw (.slice a n c))):=by
       unfold NR at h;split at h
       .obtain⟨_,h⟩:=aq h;split at h
        .rename_i e1 e2;exact⟨.inl ⟨_,_,_,e1⟩,.inl ⟨_,_,_,e2⟩⟩
        .rename_i e1;refine⟨.inr ⟨_,_,_,e1⟩,?_⟩;cases q with
         |true=>exact h.elim
         |false=>
          simp only[cond_false]at h;unfold eB FV at h;split at h
          .rename_i e2;exact .inl ⟨_,_,_,e2⟩
          .rename_i e2;exact .inr ⟨_,_,_,e2⟩
          .exact h.elim
        .exact h.elim
       .exact h.elim
      obtain⟨xa,n,cap,hxv⟩:=sl G UI.1;obtain⟨yb,m,yc,hyv⟩:=sl U UI.2;rw[hxv,hyv];rw[hxv]at G;rw[hyv]at U;simp only;exact PU (KV:=λv u'=>K (fin o s v) u') J Q G U h λZ' μ' pp v u' e1 e2 e3 e4 e5 e6 e7=>hK Z' _ μ' _ u' ((A.mono e1.le).fin o e6) e2 e3 e1 e4 e5 e7
     .exact h.elim
    |[],_,h=>exact h.elim
    |[_],_,h=>exact h.elim
    |[_,_],[],h=>exact h.elim
    |[_,_],[_],h=>exact h.elim
    |[_,_],_::_::_::_,h=>exact h.elim
    |_::_::_::_,_,h=>exact h.elim
   |value f=>
    simp only at h |-;obtain⟨hc,h⟩:=aq h;rw[lq A hc];simp only[cond_true];exact CT.v J Q (A.ev f) (JF A hc).sY h (Ms (E:=E) A hK (xQ E o) o.type)
   |invoke x name=>
    simp only at h |-;obtain⟨hc,h⟩:=aq h;rw[lq A hc];simp only[cond_true];have G:=A.ev x;split at h
    .rename_i t pp O;rw[O]at G;cases Z_:ev s.σ x with
     |iface t' v=>
      rw[Z_]at G;cases G with
      |iface _ _ _ hk hv=>
       simp only;split at h
       .rename_i g r' hm;obtain⟨jK,h⟩:=h;have aeV:pv E.er.P (method (E.er.P.types.size+Made.depth) t v name)=some (g,v):=jK v;rw[aeV];simp only;have:=CT.v (fv:=.func (.func g) #[] #[]) (vs:=v::args.toList.map (ev s.σ)) J Q (br.Fg (fv:=[]) (cv:=[]) (br.nil Z) (br.nil Z)) (br.cons (by rw[Kr];exact hk) hv.zG (JF A hc).sY) h (Ms (E:=E) A hK (xQ E o) o.type);have h2:(bif dJ E.P g then oB E.P g ((#[]:Array Value).toList++(v::args.toList.map (ev s.σ))++(#[]:Array Value).toList).toArray u (λv u'=>Qu E.er.P o.type λv'=>v=v'/\K (fin o s v') u')else False):=this;obtain⟨ij,h3⟩:=aq h2;have aiM:dJ E.er.P g=true:=ij;rw[aiM];simp only[cond_true];show oB E.P g _ u _;simpa using h3
       .exact h.elim
     |_=>rw[Z_]at G;cases G
    .exact h.elim
end
section
variable {E:kM} {fz:List Nat} {ops:Array Oper}
def va.step{Z A:Fz}{μ i:Mem}{u x:UW}{KP:dK->Mem->Prop}{K:St->UW->Prop}(h:va false Z μ u KP K)(e:Ext Z μ u.heap.size A i)(y:u.heap.size<=x.heap.size):va false A i x KP K:=
 λL I j G C r g w J n _ k=>h L I j G C r g w (e.trans J y) (le_trans y n) (λh=>by cases h) k
def jB(Z:Fz):bW Z (.aB []) undef:=br.vk (vs:=[]) (br.nil Z)
def Uz{E:Env}{fz:List Nat}{o:Oper}{s:St}{u:UW}{K:St->UW->Prop}(h:W1 E fz o s u K):Xz E fz o s u K:=by
 unfold Xz;split
 .rename_i t x y C i;cases e:wC (ev s.σ x) (ev s.σ y)with
  |false=>exact h
  |true=>
   exfalso;unfold W1 at h;simp only[i]at h;unfold wC at e;split at e
   .rename_i I G A j;rw[A,j]at h;exact h
   .cases e
 .exact h
def Er{Z:Fz}{u:UW}{μ:Mem}(j:Good Z u μ){b:Nat}(h:RZ μ b):∃(c:Array Value) (T:TypeId),u.heap[b]?=some (.cells c T (0,0))/\c.size≠0:=by
 obtain⟨T,cs,i,y⟩:=h;obtain⟨_,_,A,x,hc⟩:=j.mem b _ i;refine⟨A,T,x,λe=>y ?_⟩;have:A.size=cs.length:=by have:=hc.1;simpa using this
 exact eq_nil_of_length_eq_zero (by omega)
def Qd{Z:Fz}{o:Oper}{p:dK}{s:St}{μ:Mem}{u:UW}{KP:dK->Mem->Prop}{K:St->UW->Prop}(j:dt Z p s)(i:Good Z u μ)(G:Wf u)(hK:va false Z μ u KP K)(h:V1x E fz o p μ KP):Xz E.er fz o s u K:=by
 unfold V1x at h;split at h
 .rename_i t x y t' ho;cases Q:(Nf (sX p.σ x)&&Nf (sX p.σ (.tmp y)))with
  |true=>
   rw[Q]at h;simp only[cond_true]at h;obtain⟨A,h⟩:=aq h;unfold KS at h;split at h
   .rename_i b o1 b' o2 ex ey;obtain⟨l1,Y,h⟩:=h;have O:=j.ev x;have L:=j.ev (.tmp y);rw[ex]at O;rw[ey]at L;have J:=O.ofRaw.1;have I:=L.ofRaw.1;unfold Xz;simp only[ho];rw[J,I];simp only[wC,cond_true];unfold KT;simp only;have Pc:∃e,E.P.underlying t=some (.pointer e)/\sized E.P e=true:=by
     cases C:E.P.underlying t with
     |none=>rw[C]at A;cases A
     |some d=>
      rw[C]at A;cases d<;>first|(cases A;done)|exact⟨_,rfl,A⟩
    obtain⟨e,C,hi⟩:=Pc;have gw:E.er.P.underlying t=some (.pointer e):=C;have U:sized E.er.P e=true:=hi;rw[gw];simp only;rw[U];exact⟨Er i l1,Er i Y,hK Z _ μ _ u (j.fin o (.raw _ rfl rfl)) i G i.ext (le_refl _) (λh=>by cases h) h⟩
   .exact h.elim
  |false=>rw[Q]at h;exact Uz (mj j i G hK h)
 .exact Uz (mj j i G hK h)
def wD{QP:dK->Mem->Prop}{Q:St->UW->Prop}:∀(l:List Oper) (p:dK) (s:St) (μ:Mem) (u:UW) (Z:Fz),dt Z p s->Good Z u μ->Wf u->va false Z μ u QP Q->Vl E fz ops QP l p μ->Wl E.er fz ops Q l s u
 |[],p,s,μ,u,Z,x,J,hw,O,h=>O Z p μ s u x J hw J.ext (le_refl _) (λh=>by cases h) h
 |o::l,p,s,μ,u,Z,x,J,hw,O,h=>by
  have ajJ:∀{A:dK} {y:St},dt Z A y->V1x E fz o A μ (λI i=>Vl E fz ops QP l I i)->Xz E.er fz o y u (λG C=>Wl E.er fz ops Q l G C):=λQn U=>
   Qd Qn J hw (λZ' I i G C r g w e n _ k=>wD l I G i C Z' r g w (O.step e n) k) U
  have Y:∀{A:dK} {y:St},dt Z A y->V1 E false fz o A μ (λI i=>Vl E fz ops QP l I i)->W1 E.er fz o y u (λG C=>Wl E.er fz ops Q l G C):=λQn U=>
   mj Qn J hw (λZ' I i G C r g w e n _ k=>wD l I G i C Z' r g w (O.step e n) k) U
  have skip:∀{A:dK} {y:St},dt Z A y->Vl E fz ops QP l (cW o A (.aB [])) μ->Wl E.er fz ops Q l (fin o y undef) u:=λQn U=>
   wD l _ _ μ u Z (Qn.fin o (jB Z)) J hw O U
  simp only[Vl]at h;simp only[Wl];cases L:o.guard with
  |none=>rw[L]at h;exact ajJ x h
  |some jb=>
   obtain⟨j,b⟩:=jb;rw[L]at h;simp only at h |-;cases yh:pT ops j with
   |none=>rw[yh]at h;exact h.elim
   |some g=>
    rw[yh]at h;simp only at h |-;have hs:=x.slot g;split at h
    .rename_i c he;rw[he]at hs;rw[hs.ofRaw.1];simp only;have hT:dt Z {p with σ:=aI p.σ g (pB true)} {s with σ:=jd s.σ g (.bool true)}:=⟨x.D,fC.jd x.slot (.raw _ rfl rfl)⟩;have hF:dt Z {p with σ:=aI p.σ g (pB false)} {s with σ:=jd s.σ g (.bool false)}:=⟨x.D,fC.jd x.slot (.raw _ rfl rfl)⟩;cases c<;>cases b
     .exact Y hF h
     .exact skip hF h
     .exact skip hT h
     .exact Y hT h
    .rename_i vs he;rw[he]at hs;obtain⟨ws,hv,_⟩:=hs.Bv;rw[hv];exact skip x h
    .exact h.elim
def UR(ops:Array Oper):jl->Prop
 | .nil=>True
 | .tk i p=>(∀o,ops[i]?=some o->bF o=true)/\UR ops p
 | .ef i p=>bR ops i p=true/\UR ops p
 | .Tm i p j q=>(bR ops i p=true/\UR ops p)/\(bR ops j q=true/\UR ops q)
 | .Tl i p j q k r=>(bR ops i p=true/\UR ops p)/\(bR ops j q=true/\UR ops q)/\(bR ops k r=true/\UR ops r)
def ra{y:Array Bool}:∀{l:List Nat} {i:Nat},iW ops y l=some i->∀o,ops[i]?=some o->bF o=true
 |[],i,h=>by simp[iW]at h
 |j::l,i,h=>by
  simp only[iW]at h
  intro o x
  cases e:ops[j]? with
  |none=>rw[e]at h;exact ra h o x
  |some A=>
   rw[e]at h
   simp only at h
   cases hc:(bF A&&Region.free .any ops y j)with
   |true=>
    rw[hc]at h
    simp only[cond_true,Option.some.injEq]at h
    subst h
    rw[x]at e;cases e
    simp only[and_eq_true]at hc
    exact hc.1
   |false=>rw[hc]at h;exact ra h o x
def ke:∀{f:Nat} {y:Array Bool} {p:jl},eK ops f y=some p->UR ops p
 |0,y,p,h=>by
  simp only[eK]at h
  split at h
  .cases h;trivial
  .cases h
 |f+1,y,p,h=>by
  simp only[eK]at h
  split at h
  .cases h;trivial
  .split at h
   .rename_i j G
    split at h
    .rename_i e hp;cases h;exact⟨ra G,ke hp⟩
    .cases h
   .split at h
    .split at h
     .rename_i e hp
      cases hc:bR ops _ e with
      |true=>rw[hc]at h;cases h;exact⟨hc,ke hp⟩
      |false=>rw[hc]at h;cases h
     .cases h
    .split at h
     .rename_i e i hp x
      cases hc:(bR ops _ e&&bR ops _ i)with
      |true=>
       rw[hc]at h;cases h
       simp only[and_eq_true]at hc
       exact⟨⟨hc.1,ke hp⟩,hc.2,ke x⟩
      |false=>rw[hc]at h;cases h
     .cases h
    .split at h
     .rename_i e i A hp x C
      cases hc:(bR ops _ e&&bR ops _ i&&bR ops _ A)with
      |true=>
       rw[hc]at h;cases h
       simp only[and_eq_true]at hc
       exact⟨⟨hc.1.1,ke hp⟩,⟨hc.1.2,ke x⟩,hc.2,ke C⟩
      |false=>rw[hc]at h;cases h
     .cases h
    .cases h
def mZ{Z:Fz}{o:Oper}{p:dK}{s:St}{C U:dK->Prop}{G skip:St->Prop}(i:dt Z p s)(ha:∀y x,dt Z y x->C y->G x)(I:∀y x,dt Z y x->U y->skip x)(h:qZ ops o p C U):guarded ops o s G skip:=by
 unfold qZ at h;unfold guarded;cases A:o.guard with
 |none=>rw[A]at h;exact ha _ _ i h
 |some Y=>
  obtain⟨j,b⟩:=Y;rw[A]at h;simp only at h |-;cases L:pT ops j with
  |none=>rw[L]at h;exact h.elim
  |some g=>
   rw[L]at h;simp only at h |-;have e:=i.slot g;split at h
   .rename_i c J;rw[J]at e;rw[e.ofRaw.1];simp only;have O:dt Z {p with σ:=aI p.σ g (pB true)} {s with σ:=jd s.σ g (.bool true)}:=⟨i.D,fC.jd i.slot (.raw _ rfl rfl)⟩;have Q:dt Z {p with σ:=aI p.σ g (pB false)} {s with σ:=jd s.σ g (.bool false)}:=⟨i.D,fC.jd i.slot (.raw _ rfl rfl)⟩;cases c<;>cases b
    .exact ha _ _ Q h
    .exact I _ _ Q h
    .exact I _ _ O h
    .exact ha _ _ O h
   .rename_i vs J;rw[J]at e;obtain⟨ws,hv,_⟩:=e.Bv;rw[hv];exact I _ _ i h
   .exact h.elim
def abE{q C:Bool}{fz A:List Nat}{o:Oper}{p:dK}{μ:Mem}{K:dK->Mem->Prop}(j:qS o=true)(hp:il E.fA o=false)(h:V1 E q fz o p μ K):V1 E C A o p μ K:=by
 unfold qS at j;unfold il at hp;unfold V1 at h |-;split at j
 .rename_i t e;simp only[e]at h hp |-;cases hz:(E.P.info? t).bind (·.zero)with
  |none=>rw[hz]at h;exact h.elim
  |some z=>
   rw[hz]at h;simp only at h |-;obtain⟨y,h⟩:=aq h;rw[y];simp only[cond_true];unfold ON at h |-;cases i:o.dst with
   |none=>rw[i]at h;exact h.elim
   |some k=>
    rw[i]at h hp;simp only at h hp |-;rw[hp]at h |-;exact h
 .rename_i t x e;simp only[e]at h hp |-;obtain⟨y,h⟩:=aq h;rw[y];simp only[cond_true];unfold ON at h |-;cases i:o.dst with
  |none=>rw[i]at h;exact h.elim
  |some k=>
   rw[i]at h hp;simp only at h hp |-;rw[hp]at h |-;exact h
 .rename_i t len ps e;simp only[e]at h |-;exact h
 .cases j
def Iy{Z:Fz}{G:UW}{o:Oper}{p:dK}{s:St}{A μ:Mem}{u:UW}{fz:List Nat}{KP:dK->Mem->Prop}{K:St->UW->Prop}(L:dt Z p s)(hg:Good Z u μ)(hw:Wf u)(Nl:∀b,μ b≠none->A b≠none\/G.heap.size<=b)(i:sg G u)
  (hK:∀C J e I u',dt C J I->Good C u' e->Wf u'->Ext Z μ u.heap.size C e->u.heap.size<=u'.heap.size->sg G u'->KP J e->K I u')
  (h:Sa E fz o p A μ KP):W1 E.er fz o s u K:=by
 have base:V1 E true fz o p μ KP->W1 E.er fz o s u K:=λh1=>mj L hg hw (λC J e I u' a1 a2 a3 a4 a5 a6 a7=>hK C J e I u' a1 a2 a3 a4 a5 (yB i (a6 rfl)) a7) h1;unfold Sa at h;split at h
 .rename_i t x y ho;split at h
  .rename_i b O he;obtain⟨h0,h⟩:=h;unfold V1 at h;unfold W1;simp only[ho]at h |-;obtain⟨hc,h⟩:=aq h;simp only[and_eq_true,beq_iff]at hc;have U:=L.ev y;have Y:=L.ev x;have Q:=(U.gp (P:=E.P) (t:=t)).cells (by rw[oS];exact hc.1.1);have fK:(ev s.σ y).cells.size=(gp E.P t (sX p.σ y)).cells.length:=by have:=Q.1;simpa using this
   have Nr:(plain (ev s.σ y)&&beq (ev s.σ y).cells.size (E.er.P.cellsOf t)&&eN (ev s.σ y).cells.toList&&(E.er.P.info? t).isSome)=true:=by
    have h2:(E.er.P.info? t).isSome=true:=hc.2;rw[U.plain hc.1.1,fK,hc.1.2,kq Q,h2];have:beq (E.P.cellsOf t) (E.er.P.cellsOf t)=true:=beq_refl _;rw[this];rfl
   rw[Nr];simp only[cond_true];rw[he]at Y h;rw[Y.ofRaw.1];show dT (.pointer (some ⟨b,O,none⟩)) _;unfold dT;simp only;simp only[cond_false]at h;unfold aM at h;simp only at h;obtain⟨T,cs,hm,hl,h⟩:=h;have hb:G.heap.size<=b:=(Nl b (by rw[hm];simp)).resolve_left λhn=>hn h0;exact hg.store hm hl (qD Q).m λw' j g1 g2=>hK Z _ _ _ _ (L.fin o (br.vk (vs:=[]) (br.nil Z))) g1 (hw.Ka j) g2 j.size ⟨j.os.trans i.os,j.tape.trans i.tape,j.output.trans i.output,le_trans i.size j.size,λc hc=>(j.ne c (by omega) (Nat.lt_of_lt_of_le hc i.size)).trans (i.block c hc)⟩ h
  .exact base h
 .exact base h
def gI{Z:Fz}{C:UW}{I:Mem}{i:Nat}{p:dK}{s:St}{μ:Mem}{u:UW}{KP:dK->Mem->Prop}{K:St->UW->Prop}(hr:dt Z p s)(L:Good Z u μ)(hw:Wf u)(Nl:∀b,μ b≠none->I b≠none\/C.heap.size<=b)(ki:qY ops i=true->sg C u)
  (hK:∀x A e y u',dt x A y->Good x u' e->Wf u'->Ext Z μ u.heap.size x e->u.heap.size<=u'.heap.size->(qY ops i=true->sg C u')->(FU ops i=true->sg C u->sg C u')->KP A e->K y u')
  (h:qz E fz ops I i p μ KP):sK E.er fz ops C i s u K:=by
 unfold qz at h;unfold sK;cases ho:ops[i]? with
 |none=>rw[ho]at h;exact h.elim
 |some o=>
  rw[ho]at h;simp only at h |-;have lF:il E.er.fA o=il E.fA o:=rfl;rw[lF];cases hp:il E.fA o with
  |true=>rw[hp]at h;exact h.elim
  |false=>
   rw[hp]at h;simp only[cond_false]at h |-;refine mZ hr (λp1 s1 G j=>?_) (λp1 s1 G j=>?_) h
   .cases J:qY ops i with
    |true=>
     rw[J]at j;simp only[cond_true]at j |-;rw[G.D]at j;refine Iy G L hw Nl (ki J) (λx A e y u' a1 a2 Y U Q Qm O=>?_) j;exact⟨Qm,hK x A e y u' a1 a2 Y U Q (λ_=>Qm) (λ_ _=>Qm) O⟩
    |false=>
     rw[J]at j;simp only[cond_false]at j |-;cases hn:FU ops i with
     |true=>
      have hnw:qS o=true:=by unfold FU at hn;rw[ho]at hn;exact hn
      exact mj G L hw (λx A e y u' a1 a2 Y U Q a6 O=>hK x A e y u' a1 a2 Y U Q (λh=>by rw[J]at h;cases h) (λ_ hs=>yB hs (a6 rfl)) O) (abE hnw hp j)
     |false=>
      exact mj G L hw (λx A e y u' a1 a2 Y U Q a6 O=>hK x A e y u' a1 a2 Y U Q (λh=>by rw[J]at h;cases h) (λh=>by rw[hn]at h;cases h) O) j
   .exact hK Z _ μ _ u (G.fin o (jB Z)) L hw L.ext (le_refl _) ki (λ_ hs=>hs) j
def yD{i:Nat}{pl h:jl}{e u u':UW}(j:bR ops i pl=true)(A:sg e u\/bS ops h=false)(C:bS ops h=false->bS ops pl=false)(I:qY ops i=true->sg e u')(G:FU ops i=true->sg e u->sg e u'):sg e u'\/bS ops pl=false:=by
 unfold bR at j;cases y:qY ops i with
 |true=>exact .inl (I y)
 |false=>
  cases x:FU ops i with
  |true=>exact A.imp (G x) C
  |false=>
   simp only[y,x,Bool.false_or,and_eq_true,not_eq_true']at j;exact .inr j.2
def ku{QP:dK->Mem->Prop}{Q:St->UW->Prop}{Z0:Fz}{u0:UW}{O:Mem}(Yr:Good Z0 u0 O):∀(pl:jl) (c:Bool) (p:dK) (s:St) (μ:Mem) (u:UW) (Z:Fz),UR ops pl->dt Z p s->Good Z u μ->Wf u->Z0.le Z->Ext Z0 O u0.heap.size Z μ->u0.heap.size<=u.heap.size->(c=true->Good Z u0 O)->(sg u0 u\/bS ops pl=false)->
  va false Z μ u QP Q->Vd E fz ops O QP c pl p μ->Wd E.er fz ops u0 Q pl s u
 | .nil,c,p,s,μ,u,Z,_,hr,Y,hw,_,_,_,_,_,hC,h=>hC Z p μ s u hr Y hw Y.ext (le_refl _) (λh=>by cases h) h
 | .tk i pl,c,p,s,μ,u,Z,aJ,hr,Y,hw,hz,J,L,hc,I,hC,h=>by
   simp only[Vd,xI]at h
   simp only[Wd,stepT]
   cases ho:ops[i]? with
   |none=>rw[ho]at h;exact h.elim
   |some o=>
    rw[ho]at h
    simp only at h |-
    have next:∀C A,dt Z C A->Vd E fz ops O QP c pl C μ->Wd E.er fz ops u0 Q pl A u:=λC A r k=>ku Yr pl c C A μ u Z aJ.2 r Y hw hz J L hc I hC k
    refine mZ hr (λp1 s1 r1 h1=>?_) (λp1 s1 r1 h1=>next _ _ (r1.fin o (jB Z)) h1) h;obtain⟨hcf,h1⟩:=aq h1;cases U:oY o with
    |false=>exact GV (KP:=λC _=>Vd E fz ops O QP c pl C μ) (K:=λA _=>Wd E.er fz ops u0 Q pl A u) r1 (aJ.1 o ho) U next h1
    |true=>
     refine tL (KP:=λC _=>Vd E fz ops O QP c pl C μ) (K:=λA _=>Wd E.er fz ops u0 Q pl A u) (Zr:=Z0) r1 Yr hz ?_ U next h1
     cases c with
     |true=>exact .inr (hc rfl)
     |false=>simp only[Bool.false_or,not_eq_true']at hcf;exact .inl hcf
 | .ef i pl,c,p,s,μ,u,Z,aJ,hr,Y,hw,hz,J,L,hc,I,hC,h=>by
   have ok1:=aJ.1;refine gI hr Y hw J.mn (λU=>I.elim id λe=>?_) (λZ' C x A u' a1 a2 a3 y G a6 a8 a7=>ku Yr pl false C A x u' Z' aJ.2 a1 a2 a3 (hz.trans y.le) (J.trans y L) (le_trans L G) (λh=>by cases h) ?_ (hC.step y G) a7) h
   .simp only[bS,U,Bool.true_or]at e;cases e
   .exact yD ok1 I (λe=>by simp only[bS,or_eq_false_iff]at e;exact e.2) a6 a8
 | .Tm i pl j pl2,c,p,s,μ,u,Z,aJ,hr,Y,hw,hz,J,L,hc,I,hC,h=>by
   obtain⟨⟨ok1,ZG⟩,ok2,ZF⟩:=aJ
   refine⟨gI hr Y hw J.mn (λU=>I.elim id λe=>?_) (λZ' C x A u' a1 a2 a3 y G a6 a8 a7=>ku Yr pl false C A x u' Z' ZG a1 a2 a3 (hz.trans y.le) (J.trans y L) (le_trans L G) (λh=>by cases h) ?_ (hC.step y G) a7) h.1,
    gI hr Y hw J.mn (λU=>I.elim id λe=>?_) (λZ' C x A u' a1 a2 a3 y G a6 a8 a7=>ku Yr pl2 false C A x u' Z' ZF a1 a2 a3 (hz.trans y.le) (J.trans y L) (le_trans L G) (λh=>by cases h) ?_ (hC.step y G) a7) h.2⟩
   .simp only[bS,U,Bool.true_or]at e;cases e
   .exact yD ok1 I (λe=>by simp only[bS,or_eq_false_iff]at e;exact e.1.2) a6 a8
   .simp only[bS,U,Bool.true_or,Bool.or_true]at e;cases e
   .exact yD ok2 I (λe=>by simp only[bS,or_eq_false_iff]at e;exact e.2.2) a6 a8
 | .Tl i pl j pl2 k pl3,c,p,s,μ,u,Z,aJ,hr,Y,hw,hz,J,L,hc,I,hC,h=>by
   obtain⟨⟨ok1,ZG⟩,⟨ok2,ZF⟩,ok3,ahv⟩:=aJ
   refine⟨gI hr Y hw J.mn (λU=>I.elim id λe=>?_) (λZ' C x A u' a1 a2 a3 y G a6 a8 a7=>ku Yr pl false C A x u' Z' ZG a1 a2 a3 (hz.trans y.le) (J.trans y L) (le_trans L G) (λh=>by cases h) ?_ (hC.step y G) a7) h.1,
    gI hr Y hw J.mn (λU=>I.elim id λe=>?_) (λZ' C x A u' a1 a2 a3 y G a6 a8 a7=>ku Yr pl2 false C A x u' Z' ZF a1 a2 a3 (hz.trans y.le) (J.trans y L) (le_trans L G) (λh=>by cases h) ?_ (hC.step y G) a7) h.2.1,
    gI hr Y hw J.mn (λU=>I.elim id λe=>?_) (λZ' C x A u' a1 a2 a3 y G a6 a8 a7=>ku Yr pl3 false C A x u' Z' ahv a1 a2 a3 (hz.trans y.le) (J.trans y L) (le_trans L G) (λh=>by cases h) ?_ (hC.step y G) a7) h.2.2⟩
   .simp only[bS,U,Bool.true_or]at e;cases e
   .exact yD ok1 I (λe=>by simp only[bS,or_eq_false_iff]at e;exact e.1.1.2) a6 a8
   .simp only[bS,U,Bool.true_or,Bool.or_true]at e;cases e
   .exact yD ok2 I (λe=>by simp only[bS,or_eq_false_iff]at e;exact e.1.2.2) a6 a8
   .simp only[bS,U,Bool.true_or,Bool.or_true]at e;cases e
   .exact yD ok3 I (λe=>by simp only[bS,or_eq_false_iff]at e;exact e.2.2) a6 a8
def UQ(ops:Array Oper):iC->Prop
 | .nil=>True
 | .tk i q=>(∀o,ops[i]?=some o->bF o=true)/\UQ ops q
 | .ld i q r=>(∀o,ops[i]?=some o->bF o=true)/\UQ ops q/\UQ ops r
 | .alt _ q r=>UQ ops q/\UQ ops r
 | .done=>True
def QH{A:Array Bool}{y:List Nat}:∀{l:List Nat} {i:Nat},AG ops A y l=some i->∀o,ops[i]?=some o->bF o=true:=λh o j=>by
 obtain⟨_,C,e,x,_⟩:=AF _ h;rw[j]at e;cases e;exact x
def RY{A:Array Bool}{y:List Nat}:∀{l:List Nat} {i:Nat},BF ops A y l=some i->∀o,ops[i]?=some o->bF o=true:=λh o j=>by
 obtain⟨_,C,e,x,_⟩:=BE _ h;rw[j]at e;cases e;exact x
def Cz{y:List Nat}{g:Nat->Option iC}(e:∀i q,g i=some q->UQ ops q):∀{l:List Nat} {q:iC},zC ops y g l=some q->UQ ops q
 |[],q,h=>by cases h;trivial
 |i::l,q,h=>by
  simp only[zC]at h
  cases x:cT y i with
  |true=>rw[x]at h;exact Cz e h
  |false=>
   rw[x]at h
   simp only[cond_false]at h
   cases j:Vf ops i true with
   |true=>rw[j]at h;cases h
   |false=>
    rw[j]at h
    simp only[cond_false]at h
    split at h
    .cases h
    .rename_i G C
     split at h
     .cases h
     .rename_i r A;cases h;exact⟨e _ _ C,Cz e A⟩
def qH:∀{g:Nat} {A:Array Bool} {y:List Nat} {p:iC},lO ops g A y=some p->UQ ops p
 |0,_,_,_,h=>by simp[lO]at h
 |g+1,A,y,p,h=>by
  simp only[lO]at h
  split at h
  .cases h;trivial
  .split at h
   .rename_i j x
    split at h
    .rename_i q e;cases h;exact⟨QH x,qH e⟩
    .cases h
   .split at h
    .rename_i j x
     split at h
     .rename_i q r e C;cases h;exact⟨RY x,qH e,qH C⟩
     .cases h
    .exact Cz (λi q e=>qH e) h
def UA{QP:dK->Mem->Prop}{Q:St->UW->Prop}:∀(pl:iC) (p:dK) (s:St) (μ:Mem) (u:UW) (Z:Fz),UQ ops pl->dt Z p s->Good Z u μ->Wf u->va false Z μ u QP Q->Vq E fz ops QP pl p μ->Wq E.er fz ops Q pl s u:=by
 have take:∀{i:Nat} {pl:iC} {p:dK} {s:St} {μ:Mem} {u:UW} {Z:Fz},(∀o,ops[i]?=some o->bF o=true)->dt Z p s->Good Z u μ->(∀C A,dt Z C A->Vq E fz ops QP pl C μ->Wq E.er fz ops Q pl A u)->
   xI E fz ops true μ i p (λcf=>Vq E fz ops QP pl cf μ)->stepT E.er fz ops u i s (λcf=>Wq E.er fz ops Q pl cf u):=by
  intro i pl p s μ u Z y G j next h
  unfold xI at h;unfold stepT;cases Y:ops[i]? with
  |none=>rw[Y]at h;exact h.elim
  |some o=>
   rw[Y]at h;simp only at h |-;refine mZ G (λp1 s1 L x=>?_) (λp1 s1 L x=>next _ _ (L.fin o (jB Z)) x) h;simp only[Bool.true_or,cond_true]at x;cases hl:oY o with
   |false=>exact GV (KP:=λC _=>Vq E fz ops QP pl C μ) (K:=λA _=>Wq E.er fz ops Q pl A u) L (y o Y) hl next x
   |true=>exact tL (KP:=λC _=>Vq E fz ops QP pl C μ) (K:=λA _=>Wq E.er fz ops Q pl A u) (Zr:=Z) L j (Fz.le.refl Z) (.inr j) hl next x
 intro pl;induction pl with
 |nil=>intro p s μ u Z y G j I J h;exact J Z p μ s u G j I j.ext (le_refl _) (λh=>by cases h) h
 |tk i pl U=>intro p s μ u Z y G j I J h;exact take y.1 G j (λC A r k=>U C A μ u Z y.2 r j I J k) h
 |ld i pl r U O=>intro p s μ u Z y G j I J h;exact⟨take y.1 G j (λC A r k=>U C A μ u Z y.2.1 r j I J k) h.1,O p s μ u Z y.2.2 G j I J h.2⟩
 |alt i pl r U O=>
  intro p s μ u Z y G j I J h;refine⟨?_,O p s μ u Z y.2 G j I J h.2⟩;have x:=h.1;unfold QT at x;unfold MH;cases Y:ops[i]? with
  |none=>rw[Y]at x;exact x.elim
  |some o=>
   rw[Y]at x;simp only at x |-;refine mZ G (λp1 s1 L x=>?_) (λp1 s1 L x=>U _ _ μ u Z y.1 (L.fin o (jB Z)) j I J x) x;exact mj L j I (λZ' C μ' A u' r g w e n _ k=>U C A μ' u' Z' y.1 r g w (J.step e n) k) x
 |done=>intro p s μ u Z y G j I J h;trivial
def BC{e h:Type}(f:e->h):∀(l:List (Nat×e)) (i:Nat),look (l.map λx=>(x.1,f x.2)) i=(look l i).map f
 |[],_=>rfl
 |(k,x)::l,i=>by
  simp only[map_cons,look]
  cases beq k i
  .exact BC f l i
  .rfl
end
def td(Z:Fz)(μ:Mem)(u:UW)(h:Exit->dK->Mem->Prop)(Q:Exit->St->UW->Prop):Prop:=∀e,va false Z μ u (h e) (Q e)
def td.step{Z y:Fz}{μ i:Mem}{u j:UW}{A:Exit->dK->Mem->Prop}{Q:Exit->St->UW->Prop}(h:td Z μ u A Q)(e:Ext Z μ u.heap.size y i)(C:u.heap.size<=j.heap.size):td y i j A Q:=λx=>(h x).step e C
def va.now{Z:Fz}{μ:Mem}{u:UW}{KP:dK->Mem->Prop}{K:St->UW->Prop}(h:va false Z μ u KP K){p:dK}{s:St}(j:dt Z p s)(e:Good Z u μ)(i:Wf u)(x:KP p μ):K s u:=
 h Z p μ s u j e i e.ext (le_refl _) (λh=>by cases h) x
def td.sJ{Z:Fz}{μ:Mem}{u:UW}{i:Exit->dK->Mem->Prop}{Q:Exit->St->UW->Prop}{j:dK->Mem->Prop}{N:St->UW->Prop}(h:td Z μ u i Q)(x:va false Z μ u j N):td Z μ u (Fj j i) (sJ N Q):=by
 intro e;cases e<;>first|exact x|exact h _
def td.yA{Z:Fz}{μ:Mem}{u:UW}{QP:Exit->dK->Mem->Prop}{Q:Exit->St->UW->Prop}(h:td Z μ u QP Q)(id:Nat):td Z μ u (GP id QP) (yA id Q):=by
 intro e;cases e with
 |exit i=>
  intro Z' C j A y Y U O L J I x;simp only[GP]at x;simp only[aP.yA];cases G:beq i id with
  |true=>rw[G]at x;exact h .normal Z' C j A y Y U O L J I x
  |false=>rw[G]at x;exact h (.exit i) Z' C j A y Y U O L J I x
 |normal=>exact h _
 |ret=>exact h _
 |goto i=>exact h _
 |panic i=>exact h _
 |outgrown=>exact h _
def afM(Z:Fz)(μ:Mem)(N:Nat)(l:tc)(J:zP l->Mem->Prop)(b:Tup l.er)(u:UW):Prop:=
 ∃h e a,Ext Z μ N h e/\Good h u e/\Wf u/\N<=u.heap.size/\uB h l a b/\J a e
def HJ{Z:Fz}{μ:Mem}{u:UW}{c:u_}{J:zP c.live->Mem->Prop}{j:Tup c.er.live->UW->Prop}(h:∀i e u' a b,Ext Z μ u.heap.size i e->Good i u' e->Wf u'->u.heap.size<=u'.heap.size->uB i c.live a b->J a e->j b u'):va false Z μ u (Od c J) (Vc c.er j):=
 λi U e Q u' O L I G C _ A=>MA O A λa b x y=>h i e u' a b G L I C x y
def abI{p:Option Code}{A B y j:Prop}{l:List Nat}{F F':Nat->Prop}(h:PK p A B (l.map λi=>(i,F i)))(ha:A->y)(I:B->j)(G:∀i,F i->F' i):PK p y j (l.map λi=>(i,F' i)):=by
 unfold PK at h |-;split at h
 .exact ha h
 .exact I h
 .rename_i i;induction l with
  |nil=>exact h
  |cons x l C=>
   simp only[map_cons,Ix]at h |-;cases e:beq x i with
   |true=>rw[e]at h;simp only[cond_true]at h |-;exact G x h
   |false=>rw[e]at h;simp only[cond_false]at h |-;exact C h
 .exact h.elim
def Good.afD{Z:Fz}{u:UW}{μ:Mem}(h:Good Z u μ){b:Nat}{w':World}{y:Obj}(j:rF u.toWorld w' b y){F:uZ}{S:Fr}(G:fC Z F S):Good Z (u.born b w') (μ.set b (some (.obj y F S)))/\μ b=none:=by
 have x:u.heap.size<=b:=j.ge;have cu:∀c,c<u.heap.size->(u.born b w').heap[c]?=u.heap[c]?:=λc hc=>j.below.block c hc;refine⟨h.go (Fz.le.refl Z) (λc C A=>.inl ⟨A,cu c (h.Al (by rw[A];simp))⟩) (λc o i=>?_),h.cl x⟩;by_cases e:c=b
 .subst e;rw[Mem.ao]at i;cases i;exact .inr ⟨λ_=>.inr rfl,h.VU x,j.at_,G⟩
 .rw[Mem.ax _ _ e]at i;exact .inl ⟨i,cu c (h.Qi (by rw[i];simp)),λhp=>.inl hp,rfl⟩
def Good.mask{Z:Fz}{u:UW}{μ:Mem}{l:Nat}{x:Obj}{F:uZ}{S:Fr}(h:Good Z u (μ.set l (some (.obj x F S))))(y:μ l=none):Good Z ⟨u.toWorld.putObj l db,λb=>u.gk b/\b≠l⟩ μ:=by
 obtain⟨_,hz,_⟩:=h.mem l (.obj x F S) (Mem.ao _ _ _);refine h.go (Fz.le.refl Z) (λc C j=>.inl ⟨j,?_⟩) (λc o i=>.inl ?_)
 .have e:c≠l:=by rintro rfl;rw[hz]at j;cases j
  exact a_ e
 .have e:c≠l:=by rintro rfl;rw[y]at i;cases i
  exact⟨by rw[Mem.ax _ _ e];exact i,a_ e,λhp=>⟨hp,e⟩,rfl⟩
def Rk{Z:Fz}{p:uZ}{s:Fr}(h:fC Z p s):fC Z (Ic p) (zJ s):=by
 intro t;unfold Ic zJ;have e:=h t;cases hp:p t with
 |box k o=>exact .aU _
 |aU=>exact .aU _
 |_=>
  rw[hp]at e;cases i:s t with
  |complex k a b=>rw[i]at e;first|(cases e;done)|(cases e;rename_i j _;cases j)
  |_=>rw[i]at e;exact e
def DV{Z:Fz}:∀{i:List Nat} {ps:List PV} {e:List Value} {p:uZ} {s:Fr},fC Z p s->cQ Z ps e->fC Z (Fy p i ps) (vp s i e)
 |[],ps,e,p,s,h,_=>by cases ps<;>cases e<;>exact h
 |q::i,[],e,p,s,h,hm=>by rw[hm.nq];exact h
 |q::i,x::ps,e,p,s,h,hm=>by
  obtain⟨v,A,rfl,y,j⟩:=hm.inv
  exact DV (p:=aI p q x) (s:=jd s q v) (h.jd y) j
variable {E:kM}
def VS(E:kM)(c:Code):Prop:=∀(fz:List Nat) (e:Exit->dK->Mem->Prop) (Q:Exit->St->UW->Prop) (p:dK) (s:St) (μ:Mem) (u:UW) (Z:Fz),dt Z p s->Good Z u μ->Wf u->td Z μ u e Q->V E fz c e p μ->W E.er fz c Q s u
def OD{P:Program}{f:PV}{fv:Value}{Z:Fz}{μ:Mem}{u:UW}{FP:uZ}{F9:Fr}{YS:List PV->(Option Code->Mem->Prop)->Mem->Prop}{body:List Value->(Option Code->UW->Prop)->UW->Prop}{KP:Option Code->Mem->Prop}{K:Option Code->UW->Prop}
  (hg:Good Z u μ) (hw:Wf u) (hf:bW Z f fv) (hF:fC Z FP F9) (h:bk P f YS KP μ)
  (SU:∀(Y:Fz) (U:UW) (Q:Mem) (vsP:List PV) (vs:List Value) (RP:Option Code->Mem->Prop) (R:Option Code->UW->Prop),fC Y FP F9->Good Y U Q->Wf U->br Y vsP vs->(∀J L I u',Ext Y Q U.heap.size L I->Good L u' I->Wf u'->U.heap.size<=u'.heap.size->RP J I->R J u')->YS vsP RP Q->body vs R U)
  (hK:∀J L I u',Ext Z μ u.heap.size L I->Good L u' I->Wf u'->u.heap.size<=u'.heap.size->KP J I->K J u'):UD P fv body K u:=by
 obtain⟨⟨g,a,b,rfl⟩,h⟩:=h;obtain⟨fv',qa,rfl,_,_⟩:=id hf.ofFn;refine⟨⟨g,_,_,rfl⟩,λl rec w' hil hB hy=>?_⟩;obtain⟨gb,n_⟩:=hg.afD hB hF;have hwb:Wf (u.born l w'):=hw.born hB;have xx:u.heap.size<=l:=hB.ge;have hbs:u.heap.size<=w'.heap.size:=hB.below.size;have ry:∀Y:Fz,bW Y (.fn (.yield l) [] []) (.func (.yield l) #[] #[]):=λY=>br.Fg (fv:=[]) (cv:=[]) (br.nil Y) (br.nil Y);have dc:=h l (λp=>.obj (rec p) FP F9) n_ (λvs Q R zi j=>?_)
 .have hc2:=bP.v gb hwb hf (br.cons rfl (ry Z) (br.nil Z)) dc;refine hc2.mono λv lo w2 hm Ww hp=>?_;obtain⟨L,I,pp,e,g',hr,J,G,hl3,rfl,hk⟩:=hp;obtain⟨nH,Ev,hhl,_⟩:=g'.mem l _ (Mem.ao _ _ _);have fK:(u.born l w').heap.size<=w2.heap.size:=hm.size;have Pc:w'.heap.size<=w2.heap.size:=fK;refine⟨J,hhl,hK J L G _ ⟨e.le,λb C j hn=>?_,λb j=>?_,λb j=>?_,λb j=>hg.Al j⟩ (g'.mask hl3) ?_ ?_ hk⟩
  .refine e.zs b C j ?_;have bK:=hg.Al (b:=b) (by rw[j];simp);rw[Mem.ax _ _ (by omega)];exact hn
  .rcases e.zn b j with i|i|i
   .exact .inl i
   .by_cases O:b=l
    .subst O;exact .inr (.inr xx)
    .rw[Mem.ax _ _ O]at i;exact .inr (.inl i)
   .have:w'.heap.size<=b:=i;exact .inr (.inr (by omega))
  .have aW:b≠l:=by rintro rfl;exact j hl3
   rcases e.mn b (by rw[Mem.ax _ _ aW];exact j)with i|i
   .rw[Mem.ax _ _ aW]at i;exact .inl i
   .have:w'.heap.size<=b:=i;exact .inr (by omega)
  .intro b j;have:=hwb.ret (lo:=lo) fK b j.1;simpa using this
  .show _<=(w2.putObj l db).heap.size;have:(w2.putObj l db).heap.size=w2.heap.size:=by simp
   omega
 .show yT P (.fn (.yield l) [] []) vs _ _;intro Y U fv1 vs1 g1 Yc aiC ahR;have ef:fv1=.func (.yield l) #[] #[]:=by
   obtain⟨x,y,rfl,i,h2⟩:=aiC.ofFn;rw[i.nq,h2.nq]
  subst ef;obtain⟨nH,Ev,hhl,hFF⟩:=g1.mem l _ (Mem.ao _ _ _);have nH:=nH rfl;have se:l<U.heap.size:=(Array.getElem?_eq_some_iff.1 hhl).1;have hwm:Wf ⟨U.toWorld.putObj l db,λb=>U.gk b/\b≠l⟩:=λb j=>by simpa using Yc b j.1
  have Pa:=hy vs1 U.toWorld (λb=>U.gk b/\b≠l) (λJ uu=>∃L G,Ext Y Q U.heap.size L G/\Good L uu G/\Wf uu/\R J G) hhl (λb j=>⟨Yc b j.1,j.2⟩)
   (SU Y _ Q vs vs1 R _ hFF (g1.mask zi) hwm ahR (λJ L I u' e1 e2 e3 e4 e5=>⟨L,I,by simpa using e1,e2,e3,e5⟩) j)
  refine jP.2 ⟨λb=>(U.gk b/\b≠l)\/b=l,λb j=>j.elim (·.1) (λe=>by subst e;exact nH),Pa.mono λv lo w2 hm Ww _ hp=>?_⟩;obtain⟨J,gk,w3,rfl,rfl,hmk,Ln,L,G,e,g3,hw3,hR⟩:=hp;have Wv:l<w3.heap.size:=(Array.getElem?_eq_some_iff.1 hmk).1;have adL:L l=none:=by
   cases hz:L l with
   |none=>rfl
   |some C=>
    rcases e.zn l (by rw[hz];simp)with i|i|i
    .exact absurd Ev i
    .exact absurd zi i
    .omega
  have Ym:G l=none:=by
   cases hz:G l with
   |none=>rfl
   |some C=>
    rcases e.mn l (by rw[hz];simp)with i|i
    .exact absurd zi i
    .omega
  have ah1:(w3.putObj l (rec J)).heap.size=w3.heap.size:=by simp
  refine⟨L,G.set l (some (.obj (rec J) FP F9)),pB J.isNone,⟨e.le,λb C j hn=>?_,λb j=>?_,λb j=>?_,e.lt⟩,⟨λb C j=>?_,λb o ho=>?_⟩,.raw _ rfl rfl,J,G,rfl,Ym,rfl,hR⟩
  .refine e.zs b C j ?_;by_cases O:b=l
   .subst O;exact zi
   .rw[Mem.ax _ _ O]at hn;exact hn
  .rcases e.zn b j with i|i|i
   .exact .inl i
   .by_cases O:b=l
    .subst O;exact absurd zi i
    .exact .inr (.inl (by rw[Mem.ax _ _ O];exact i))
   .exact .inr (.inr i)
  .by_cases O:b=l
   .subst O;exact .inl (by rw[Mem.ao];simp)
   .rw[Mem.ax _ _ O]at j |-;exact e.mn b j
  .have aW:b≠l:=by rintro rfl;rw[adL]at j;cases j
   obtain⟨A,T,f,hA,fD⟩:=g3.Da b C j;exact⟨A,T,f,(a_ aW).trans hA,fD⟩
  .by_cases O:b=l
   .subst O;rw[Mem.ao]at ho;cases ho;exact⟨λ_=>.inl nH,adL,World.putObj_heap_same Wv,λt=>(hFF t).mono e.le⟩
   .rw[Mem.ax _ _ O]at ho;obtain⟨p1,p2⟩:=g3.mem b o ho;refine⟨λKg=>?_,p2.go (Fz.le.refl _) rfl (a_ O)⟩;rcases Ln b (p1 Kg)with i|i
    .exact .inl i.1
    .refine .inr ⟨i,?_⟩;rw[ah1];exact p2.lt
def XA(c:Code):VS E c:=by
 induction c with
 |skip=>intro fz Y Q p s μ u Z j A L C h;exact(C .normal).now j A L h
 |ret=>intro fz Y Q p s μ u Z j A L C h;exact(C .ret).now j A L h
 |exit i=>intro fz Y Q p s μ u Z j A L C h;exact(C (.exit i)).now j A L h
 |region id ops draw=>
  intro fz Y Q p s μ u Z j A L C h;cases draw with
  |false=>exact wD ops.toList p s μ u Z j A L (C .normal) h
  |true=>
   simp only[V]at h;simp only[W];obtain⟨hm,h⟩:=aq h;have sU:E.er.P.follows .mixedOrders=true:=hm;rw[sU];simp only[cond_true];have aiy:isQ E.er.fA id=isQ E.fA id:=rfl;rw[aiy];cases hiq:isQ E.fA id with
   |true=>
    rw[hiq]at h;simp only[cond_true]at h |-;cases hp:oT ops with
    |none=>rw[hp]at h;exact h.elim
    |some pl=>
     rw[hp]at h;simp only at h |-;have aJ:UQ ops pl:=by
      unfold oT at hp;cases hs:Region.noSelect ops with
      |true=>rw[hs]at hp;exact qH hp
      |false=>rw[hs]at hp;cases hp
     exact UA pl p s μ u Z aJ j A L (C .normal) h
   |false=>
   rw[hiq]at h;simp only[cond_false]at h |-;cases hp:tJ ops with
   |none=>rw[hp]at h;exact h.elim
   |some pl=>
    rw[hp]at h;simp only at h |-;have aJ:UR ops pl:=by
     unfold tJ at hp;cases hs:Region.noSelect ops with
     |true=>rw[hs]at hp;exact ke hp
     |false=>rw[hs]at hp;cases hp
    exact ku A pl true p s μ u Z aJ j A L (Fz.le.refl Z) A.ext (le_refl _) (λ_=>A) (.inl (Below.refl _ _)) (C .normal) h
 |seq x y IE ID=>
  intro fz Y Q p s μ u Z j A L C h;simp only[V]at h;simp only[W];have aen:∀{i:Nat},look E.er.jt i=(look E.jt i).map u_.er:=λ{i}=>BC u_.er E.jt i;have SV:(fM y).bind (look E.er.jt)=((fM y).bind (look E.jt)).map u_.er:=by
   cases fM y with
   |none=>rfl
   |some i=>exact aen
  rw[SV];split at h
  .rename_i hj;rw[hj];exact IE fz _ _ p s μ u Z j A L (C.sJ λZ' p' O s' u' a1 a2 a3 a4 a5 _ a7=>ID fz Y Q p' s' O u' Z' a1 a2 a3 (C.step a4 a5) a7) h
  .rename_i l hj;rw[hj];simp only[map_some];obtain⟨hl,J,hA,hB⟩:=aq h;rw[j.D]at hl hA;rw[hl];simp only[cond_true];refine⟨afM Z μ u.heap.size l.live J,?_,?_⟩
   .exact IE _ _ _ p s μ u Z j A L (C.sJ (HJ λZ' O u' a b e1 e2 e3 e4 e5 e6=>⟨Z',O,a,e1,e2,e3,e4,e5,e6⟩)) hA
   .rintro b u' ⟨Z',O,a,e1,e2,e3,e4,e5,e6⟩;exact ID fz Y Q _ _ O u' Z' (Nb (j.mono e1.le) (writes x) e5) e2 e3 (C.step e1 e4) (hB a O e6)
 |cond c x y IE ID=>
  intro fz Y Q p s μ u Z j A L C h;simp only[V]at h;simp only[W];have hc:=j.ev c;split at h
  .rename_i t ht;rw[ht]at hc;rw[hc.ofRaw.1];simp only;cases t with
   |true=>exact IE fz Y Q p s μ u Z j A L C h
   |false=>exact ID fz Y Q p s μ u Z j A L C h
  .exact h.elim
 |block id x ih=>
  intro fz Y Q p s μ u Z j A L C h;simp only[V]at h;simp only[W];exact ih fz _ _ p s μ u Z j A L (C.yA id) h
 |loop x ih=>
  intro fz Y Q p s μ u Z j A L C h;simp only[V]at h;simp only[W];have SV:(fM x).bind (look E.er.loops)=((fM x).bind (look E.loops)).map u_.er:=by
   cases fM x with
   |none=>rfl
   |some i=>exact BC u_.er E.loops i
  rw[SV];split at h
  .exact h.elim
  .rename_i l hj;rw[hj];simp only[map_some];obtain⟨hl,h⟩:=aq h;rw[j.D]at hl h;rw[hl];simp only[cond_true];refine MA j h λa b zo aem=>?_;obtain⟨I,⟨n0,h0⟩,Ll⟩:=aem;refine⟨λn=>afM Z μ u.heap.size l.live (I n),⟨n0,Z,μ,a,A.ext,A,L,le_refl _,zo,h0⟩,?_⟩;rintro n b u' ⟨Z',O,a,e1,e2,e3,e4,e5,e6⟩;refine ih _ _ _ _ _ O u' Z' (Nb (j.mono e1.le) (writes x) e5) e2 e3 ((C.step e1 e4).sJ (HJ λZ2 U u2 a2 b2 f1 f2 f3 f4 f5 f6=>?_)) (Ll n a O e6);obtain⟨m,hm,hi⟩:=f6;exact⟨m,hm,Z2,U,a2,e1.trans f1 e4,f2,f3,le_trans e4 f4,f5,hi⟩
 |rangeFunc f ps x y IE ID=>
  intro fz Y Q p s μ u Z j A L C h;simp only[V]at h;simp only[W];have ah7:look E.er.sa (ps.toList.headD 0)=look E.sa (ps.toList.headD 0):=rfl;rw[ah7];split at h
  .exact h.elim
  .rename_i ts zK;rw[zK];simp only;obtain⟨hlen,h⟩:=aq h;rw[hlen];simp only[cond_true];refine OD (FP:=Ic p.σ) (F9:=zJ s.σ) A L (j.ev f) (Rk j.slot) h ?_ ?_
   .intro Z1 u1 μ1 vsP vs RP R hF Ph Yc Gf hR hb;obtain⟨Ec,aJ,⟨rfl,hb⟩,hex⟩:=ua (Z:=Z1) hb;refine hex (G:=λqn=>vs=qn/\W E.er [] x (RM λeV u1=>W E.er [] y (KN R) eV u1) ⟨vp (zJ s.σ) ps.toList qn,[]⟩ u1) Gf.m ⟨rfl,?_⟩;refine IE [] _ _ ⟨Fy (Ic p.σ) ps.toList vsP,[]⟩ _ μ1 u1 Z1 ⟨rfl,DV hF Gf.m⟩ Ph Yc (λe=>?_) hb;cases e with
    |normal=>
     intro Z2 p2 U s2 u2 a1 a2 a3 a4 a5 _ a7;refine ID [] _ _ p2 s2 U u2 Z2 a1 a2 a3 (λe=>?_) a7;intro Z3 p3 μ3 s3 u3 b1 b2 b3 b4 b5 _ b7;cases e with
     |normal=>exact hR none Z3 μ3 u3 (a4.trans b4 a5) b2 b3 (le_trans a5 b5) b7
     |ret=>exact hR (some .ret) Z3 μ3 u3 (a4.trans b4 a5) b2 b3 (le_trans a5 b5) b7
     |exit i=>exact hR (some (.exit i)) Z3 μ3 u3 (a4.trans b4 a5) b2 b3 (le_trans a5 b5) b7
     |goto i=>exact b7.elim
     |panic i=>exact b7.elim
     |outgrown=>exact b7.elim
    |ret=>intro Z2 p2 U s2 u2 a1 a2 a3 a4 a5 _ a7;exact a7.elim
    |exit i=>intro Z2 p2 U s2 u2 a1 a2 a3 a4 a5 _ a7;exact a7.elim
    |goto i=>intro Z2 p2 U s2 u2 a1 a2 a3 a4 a5 _ a7;exact a7.elim
    |panic i=>intro Z2 p2 U s2 u2 a1 a2 a3 a4 a5 _ a7;exact a7.elim
    |outgrown=>intro Z2 p2 U s2 u2 a1 a2 a3 a4 a5 _ a7;exact a7.elim
   .intro pc Z' O u' e1 e2 e3 e4 hk;have yd:=j.mono e1.le;refine abI (F:=λi=>Y (.exit i) p O) hk (λha=>(C.step e1 e4 .normal).now yd e2 e3 ha) (λhb=>?_) (λi hi=>(C.step e1 e4 (.exit i)).now yd e2 e3 hi);cases hh:ma y with
    |true=>rw[hh]at hb;simp only[cond_true]at hb |-;exact(C.step e1 e4 .ret).now yd e2 e3 hb
    |false=>rw[hh]at hb;exact hb.elim
 |scope x ih=>intro fz Y Q p s μ u Z j A L C h;exact h.elim
 |label l=>intro fz Y Q p s μ u Z j A L C h;exact h.elim
 |goto l=>intro fz Y Q p s μ u Z j A L C h;exact h.elim
 |refuse x=>intro fz Y Q p s μ u Z j A L C h;exact h.elim
def vv{P:Program}{rw:List Nat}{Z:Fz}{p:dK}{s:St}{μ:Mem}{u:UW}(i:dt Z p s)(O:Good Z u μ):∀{C:List ResultVar} {L:List PV->Prop} {F:List Value->Prop},(∀ps x,br Z ps x->L ps->F x)->vw P rw p μ C L->tx P s u C F
 |[],L,F,y,h=>y [] [] (br.nil Z) h
 | .tmp t::C,L,F,y,h=>by
   simp only[vw]at h
   simp only[tx]
   obtain⟨j,h⟩:=aq h
   rw[(i.slot t).plain j];simp only[cond_true];exact vv i O (λps x A hp=>y _ _ (br.cons j (i.slot t) A) hp) h
 | .cell a t::C,L,F,y,h=>by
   simp only[vw]at h;simp only[tx];cases j:lZ P (cT rw a) t with
   |none=>rw[j]at h;exact h.elim
   |some ks=>
    rw[j]at h;rw[xZ j];simp only at h |-;rw[List.length_map];have ha:=i.slot a;split at h
    .rename_i k e Y;rw[Y]at ha;rw[ha.zf];simp only;rw[<- i.D];split at h
     .rename_i m Q;rw[Q];simp only;obtain⟨hc,h⟩:=aq h;simp only[and_eq_true]at hc;have J:=(fC.xP (k:=k) i.slot ks.length e).c hc.2;rw[hc.1,kq J];simp only[Bool.and_self,cond_true];exact vv i O (λps x A hp=>y _ _ (br.cons (FX j (zc _ _ _ _) hc.2) (BA J) A) hp) h
     .exact h.elim
    .unfold aM at h;split at h
     .rename_i b e Y;rw[Y]at ha;rw[ha.ofRaw.1];show dT (.pointer (some ⟨b,e,none⟩)) _;unfold dT;simp only;obtain⟨ps0,I,hc,⟨dF,h⟩,U⟩:=od (Z:=Z) h;obtain⟨vs0,hv,Q⟩:=vB O dF;have J:=Q.c hc;exact U (G:=λus=>rd u.heap b e ks.length=some us/\tx P s u C λx=>F (FW (dx P t) us::x)) J.m ⟨hv,vv i O (λps x A hp=>y _ _ (br.cons (FX j I hc) (BA J) A) hp) h⟩
     .exact h.elim
def MZ(n:Nat)(c:Code)(e:List ResultVar)(k:Nat):Bool:=gn n c&&ble n 65536&&e.all (Ej n)&&ble k n
def Uq{Z:Fz}{ps:List PV}{e:List Value}(h:br Z ps e):fC Z (NT ps) (JB e):=by
 intro t;unfold NT JB;cases hp:ps[t]? with
 |none=>
  have:e[t]?=none:=by
   rw[List.getElem?_eq_none_iff]at hp |-;rw[h.1];exact hp
  rw[this];exact jB Z
 |some p=>
  obtain⟨v,i,_,j⟩:=h.get hp;rw[i];exact j
def UB{f:FuncId}{fn:Func}{c:Code}{G:List ResultVar}{args:List PV}{μ:Mem}{R:Kq}(hf:E.P.funcs[f]?=some fn)(U:fn.body=some c)(hnt:fn.ntmps=E.n)(Kh:fn.results.toList=G)
  (aJ:MZ E.n c G args.length=true) (ij:dJ E.P f=true) (h:VF E c G args μ R):aa E.P f args μ R:=by
 intro Z u vs hg hw Gf;refine⟨ij,u.gk,λ_ U=>U,?_⟩;have aie:VO E.n c G vs=true:=by
  simp only[MZ,and_eq_true]at aJ;simp only[VO,and_eq_true];refine⟨⟨aJ.1,by rw[Gf.1];exact aJ.2⟩,all_eq_true.2 λv hv=>Gf.xV v hv⟩
 have hW:WF E.P E.n E.fA E.er.loops E.er.jt E.er.sa c G vs ⟨u.toWorld,u.gk⟩ (λv y=>∃x j p,Ext Z μ u.heap.size x j/\Good x y j/\Wf y/\bW x p v/\R p j):=by
  refine XA c [] _ _ ⟨NT args,[]⟩ _ μ u Z ⟨rfl,Uq Gf⟩ hg hw (λe=>?_) h;have fin:∀(x:Fz) (L:dK) (j:Mem) (J:St) (y:UW),dt x L J->Good x y j->Wf y->Ext Z μ u.heap.size x j->vw E.P E.lb L j G (QE R j)->tx E.P J y G (Oc (λv y=>∃x j p,Ext Z μ u.heap.size x j/\Good x y j/\Wf y/\bW x p v/\R p j) y):=by
   intro x L j J y a1 I Q O C;refine vv a1 I (λps qn A Y=>?_) C
   match ps,A with
   |[],A=>rw[A.nq];exact⟨x,j,_,O,I,Q,jB x,Y⟩
   |[q],A=>
    obtain⟨v,aha,rfl,_,h2,h3⟩:=A.inv;rw[h3.nq];exact⟨x,j,_,O,I,Q,h2,Y⟩
   |q::q'::ps,A=>
    obtain⟨v,aha,rfl,_,_,h3⟩:=id A.inv;obtain⟨v',vs3,rfl,_,_,_⟩:=h3.inv;exact⟨x,j,_,O,I,Q,A.vk,Y⟩
  intro x L j J y a1 I Q O a5 _ C;cases e with
  |normal=>exact fin x L j J y a1 I Q O C
  |ret=>exact fin x L j J y a1 I Q O C
  |exit i=>exact C.elim
  |goto i=>exact C.elim
  |panic i=>exact C.elim
  |outgrown=>exact C.elim
 refine(Uy hf U hnt Kh aie (λb U=>hw b U) hW).mono λv lo w' hm Ww hp=>?_;obtain⟨gk,Ln,x,j,p,e,g',Wk,hr,Y⟩:=hp;refine⟨x,j,p,e,⟨g'.Da,λb o ho=>?_⟩,hr,Y⟩;obtain⟨p1,p2⟩:=g'.mem b o ho;refine⟨λKg=>?_,p2⟩;rcases Ln b (p1 Kg)with h1|h1
 .exact .inl h1
 .exact .inr ⟨h1,p2.lt⟩
def Qc{E:kM}{S:Prop}{f:FuncId}{fn:Func}{c:Code}{i:List ResultVar}{args:List PV}{μ:Mem}{R:Kq}(y:E.P.funcs[f]?=some fn)(A:fn.body=some c)(j:fn.ntmps=E.n)(G:fn.results.toList=i)
  (C:MZ E.n c i args.length=true) (x:dJ E.P f=true) (e:S=VF E c i args μ R) (h:S):aa E.P f args μ R:=by
 subst e;exact UB y A j G C x h
def VC{P:Program}{f:FuncId}{fn:Func}{S:Prop}{args:List PV}{μ:Mem}{R:Kq}(fA:List Nat)(loops jt:List (Nat×u_))(sa:List (Nat×List TypeId))(cst wrt lb:List Nat)(j:P.funcs[f]?=some fn)(h:S)
  (x:fn.body=some (fn.body.getD .skip):=by rfl) (y:MZ fn.ntmps (fn.body.getD .skip) fn.results.toList args.length=true:=by kernel_rfl) (i:dJ P f=true:=by kernel_rfl)
  (e:S=VF ⟨P,fn.ntmps,fA,loops,jt,sa,cst,wrt,lb⟩ (fn.body.getD .skip) fn.results.toList args μ R:=by kernel_rfl):aa P f args μ R:=
 Qc (E:=⟨P,fn.ntmps,fA,loops,jt,sa,cst,wrt,lb⟩) j x rfl rfl y i e h
@[reducible] def pA(a:Option Addr):PV:=.raw (.pointer a)
@[reducible] def pV(a:Option Addr)(n c:Nat):PV:=.raw (.slice a n c)
def nP(a:Option Addr)(F:Nat->Nat->Prop):Prop:=nn a (aM (.raw (.pointer a)) F)
def cl(μ:Mem)(T:TypeId)(cs:List PV)(K:Nat->Mem->Prop):Prop:=∀b:Nat,μ b=none->K b (μ.set b (some (.cells T cs)))
end Go.aP
namespace Go.aP
open Go.RowKit
def ab.t{c:Bool}{A B:Prop}(hc:c=true)(h:A):ab c A B:=by subst hc;exact h
def ab.f{c:Bool}{A B:Prop}(hc:c=false)(h:B):ab c A B:=by subst hc;exact h
def ab.mk{c:Bool}{A B:Prop}(h:c=true->A)(e:c=false->B):ab c A B:=XD.2 ⟨h,e⟩
def cg.of{i e:Type}{A:(i->e->Prop)->Prop}{B:i->e->Prop}(h:∀J:i->e->Prop,(∀s u,B s u->J s u)->A J):cg A B:=⟨B,h B λ_ _ h=>h,λ_ _ h=>h⟩
def ak.up{i:Type}{e:(Int->i->Prop)->Int->i->Prop}{u:i}(n:Nat)(C:n<9223372036854775808)(I:Nat->i->Prop)(y:I 0 u)
  (h:∀(k:Nat) (u:i) (next:Int->i->Prop),k<=n->I k u->(k<n->∀u',I (k+1) u'->next (IntKind.wrap .i64 ((k:Int)+1)) u')->e next (k:Int) u):ak e 0 u:=by
 refine⟨λm s u=>∃k:Nat,s=(k:Int)/\k<=n/\I k u/\m=n-k,⟨n,0,rfl,zero_le _,y,rfl⟩,?_⟩;rintro _ _ u ⟨k,rfl,j,x,rfl⟩;refine h k u _ j x λG u' A=>?_;rw[aD (by omega) (by omega)];exact⟨n-(k+1),by omega,k+1,by omega,by omega,A,rfl⟩
def ak.up2{j i:Type}{e:(j×Int->i->Prop)->j×Int->i->Prop}{x:j}{u:i}(n:Nat)(J:n<9223372036854775808)(I:Nat->j->i->Prop)(C:I 0 x u)
  (h:∀(k:Nat) (x:j) (u:i) (next:j×Int->i->Prop),k<=n->I k x u->(k<n->∀x' u',I (k+1) x' u'->next (x',IntKind.wrap .i64 ((k:Int)+1)) u')->e next (x,(k:Int)) u):ak e (x,0) u:=by
 refine⟨λm s u=>∃k:Nat,s.2=(k:Int)/\k<=n/\I k s.1 u/\m=n-k,⟨n,0,rfl,zero_le _,C,rfl⟩,?_⟩;rintro _ ⟨x,_⟩ u ⟨k,rfl,y,A,rfl⟩;refine h k x u _ y A λL x' u' G=>?_;rw[aD (by omega) (by omega)];exact⟨n-(k+1),by omega,k+1,by simp,by omega,G,rfl⟩
section
variable {P:Program} {g:FuncId} {args:List PV} {μ ν:Mem} {K K':Kq}
def aa.mono(h:aa P g args μ K)(A:∀v i,K v i->K' v i):aa P g args μ K':=λZ u j C x ha=>by
 obtain⟨hc,h⟩:=h Z u j C x ha;refine⟨hc,h.Bz λv L J _ _ hp=>?_⟩;obtain⟨I,i,p,e,G,y,hK⟩:=hp;exact⟨I,i,p,e,G,y,A p i hK⟩
def aa.Db(h:aa P g args μ K)(J:∀v i,K v i->∃j x,(∀Z r,bW Z v r->bW Z j r)/\x.sub i/\K' j x):aa P g args μ K':=λZ u C L G ha=>by
 obtain⟨hc,h⟩:=h Z u C L G ha;refine⟨hc,h.Bz λv lo Y _ _ hp=>?_⟩;obtain⟨A,i,p,e,U,I,hK⟩:=hp;obtain⟨j,x,Q,y,O⟩:=J p i hK;exact⟨A,x,j,e.sub y,U.sub y,Q A _ I,O⟩
theorem aa.wk(h:aa P g args μ λp μ'=>K (aP.wk p) μ'):aa P g args μ K:=h.Db λv μ' hk=>⟨aP.wk v,μ',λZ r h=>h.wk,λ_ _ h=>h,hk⟩
def Mem.bB{μ ν:Mem}{b:Nat}{o:Ob}(h:μ b=some o):(μ.or ν) b=some o:=by simp[Mem.or,h]
def Mem.bp{μ ν:Mem}{b:Nat}(h:μ b=none):(μ.or ν) b=ν b:=by simp[Mem.or,h]
@[simp] theorem Mem.pK(μ:Mem):μ.or M0=μ:=by
 funext b;unfold Mem.or;cases μ b<;>rfl
@[simp] theorem Mem.JM(μ:Mem):M0.or μ=μ:=by funext b;rfl
def Mem.RD{μ ν:Mem}{b:Nat}(h:(μ.or ν) b≠Option.none):μ b≠Option.none\/ν b≠Option.none:=by
 cases e:μ b with
 |some o=>exact .inl (by simp)
 |none=>rw[Mem.bp e]at h;exact .inr h
@[simp] theorem alA(b:Nat):M0 b=Option.none:=rfl
def Mem.xM(μ:Mem):M0.sep μ:=λb=>.inl rfl
def aa.frame(h:aa P g args μ K)(hs:μ.sep ν):aa P g args (μ.or ν) λv Y=>∃j,j.sep ν/\Y=j.or ν/\K v j:=λZ u vs hg hw ha=>by
 have I:∀b o,μ b=some o->(o.rw=true->u.gk b)/\zQ Z u b o:=λb o e=>hg.mem b o (Mem.bB e);have G:∀b o,ν b=some o->μ b=none/\(o.rw=true->u.gk b)/\zQ Z u b o:=λb o e=>by
  have O:μ b=none:=(hs b).resolve_right (by rw[e];simp);exact⟨O,hg.mem b o (by rw[Mem.bp O];exact e)⟩
 have Ph:Good Z ⟨u.toWorld,λb=>∃o,μ b=some o/\o.rw=true⟩ μ:=⟨hg.Da,λb o e=>⟨λJ=>⟨o,e,J⟩,(I b o e).2⟩⟩;obtain⟨hc,F,hF,dc⟩:=h Z ⟨u.toWorld,λb=>∃o,μ b=some o/\o.rw=true⟩ vs Ph (λb ⟨o,y,_⟩=>Ph.Qi (by rw[y];simp)) ha;refine⟨hc,F,λb A=>?_,dc.mono λv lo w' hm Ww hp=>?_⟩
 .obtain⟨o,y,J⟩:=hF b A;exact(I b o y).1 J
 .obtain⟨Z',j,p,e,g',J,hK⟩:=hp;have L:∀b o,ν b=some o->w'.heap[b]?=u.heap[b]?/\Z' b=Z b/\j b=none:=λb o A=>by
   obtain⟨U,_,h2⟩:=G b o A;have bK:=h2.lt;refine⟨hm.cu b bK λhf=>(by obtain⟨o',Pe,_⟩:=hF b hf;rw[U]at Pe;cases Pe),?_,?_⟩
   .cases hz:Z b with
    |some C=>exact e.zs b C hz U
    |none=>
     cases Li:Z' b with
     |none=>rfl
     |some C=>
      rcases e.zn b (by rw[Li];simp)with i|i|i
      .exact absurd hz i
      .exact absurd U i
      .have:u.heap.size<=b:=i;omega
   .cases x:j b with
    |none=>rfl
    |some o'=>
     rcases e.mn b (by rw[x];simp)with i|i
     .exact absurd U i
     .have:u.heap.size<=b:=i;omega
  refine⟨Z',j.or ν,p,⟨e.le,λb C A O=>?_,λb A=>?_,λb A=>?_,e.lt⟩,⟨g'.Da,λb o y=>?_⟩,J,j,λb=>?_,rfl,hK⟩
  .refine e.zs b C A ?_;cases x:μ b with
   |none=>rfl
   |some o=>rw[Mem.bB x]at O;cases O
  .rcases e.zn b A with i|i|i
   .exact .inl i
   .refine .inr (.inl ?_);cases x:μ b with
    |none=>exact absurd x i
    |some o=>rw[Mem.bB x];simp
   .exact .inr (.inr i)
  .rcases Mem.RD A with i|i
   .rcases e.mn b i with Q|Q
    .left;cases x:μ b with
     |none=>exact absurd x Q
     |some o=>rw[Mem.bB x];simp
    .exact .inr Q
   .cases x:ν b with
    |none=>exact absurd x i
    |some o=>exact .inl (by rw[Mem.bp (G b o x).1,x];simp)
  .cases x:j b with
   |some o'=>
    rw[Mem.bB x]at y;cases y;obtain⟨p1,p2⟩:=g'.mem b _ x;refine⟨λKg=>?_,p2⟩;rcases p1 Kg with⟨o2,hy,Ex⟩|p1
    .exact .inl ((I b o2 hy).1 Ex)
    .exact .inr p1
   |none=>
    rw[Mem.bp x]at y;obtain⟨U,h2,i⟩:=G b o y;obtain⟨Q,h5,h6⟩:=L b o y;exact⟨λKg=>.inl (h2 Kg),i.go e.le h5 Q⟩
  .cases x:ν b with
   |none=>exact .inr rfl
   |some o=>exact .inl (L b o x).2.2
def av(P:Program)(g:FuncId)(args:List PV)(K:PV->Prop):Prop:=aa P g args M0 λp _=>K p
def Pure(P:Program)(g:FuncId)(args:List PV)(r:PV):Prop:=av P g args λp=>p=r
def av.call{x:PV->Prop}(h:av P g args x)(G:∀p,x p->K p μ):aa P g args μ K:=by
 have j:=aa.frame (ν:=μ) h (Mem.xM μ);rw[Mem.JM]at j;refine j.Db λv A ⟨y,C,e,hK⟩=>⟨v,μ,λ_ _ h=>h,λb o i=>?_,G v hK⟩;rw[e,Mem.bp ((C b).resolve_right (by rw[i];simp))];exact i
def Pure.call{r:PV}(h:Pure P g args r)(i:K r μ):aa P g args μ K:=av.call h λp e=>by subst e;exact i
def av.q{i:PV->Prop}(h:av P g args i)(A:∀p,i p->K p M0):dh P g args μ K:=λZ u x C Q ha=>by
 obtain⟨hc,I⟩:=h Z ⟨u.toWorld,λ_=>False⟩ x ⟨C.Da,λb o e=>by cases e⟩ (λ_ h=>h.elim) ha;refine⟨hc,I.Bz λv O L _ _ hp=>?_⟩;obtain⟨J,j,p,e,G,y,hK⟩:=hp;exact⟨J,M0,p,e.sub (λb o h=>by cases h),G.sub (λb o h=>by cases h),y,A p hK⟩
def Pure.q{r:PV}(h:Pure P g args r)(i:K r M0):dh P g args μ K:=av.q h λp e=>by subst e;exact i
theorem av.of{Kp:PV->Prop}(h:aa P g args M0 λp _=>Kp (aP.wk p)):av P g args Kp:=aa.wk h
end
def mq(fl:Fl)(n size:Nat)(μ:Mem):Prop:=
 match fl with
 | .sh=>False
 | .nr=>True
 | .nil=>True
 | .nM b c=>μ b=some (.nM (n*size) (c*size))
def Fl.at(fl:Fl)(b:Nat):Prop:=match fl with| .nM e _=>b=e|_=>False
def aR.go{q:Bool}{size j:Nat}{fl:Fl}{i new:Lq}{μ:Mem}{K:Fl->Mem->Prop}(h:mq fl i.length size μ)(hb:(i.length+new.length)*j<=140737488355328)(U:i.length+new.length<4611686018427387904)
  (hK:∀I y,mq I (i.length+new.length) size y->(∀b o,μ b=some o->¬fl.at b->y b=some o/\¬I.at b)->K I y) (Y:q=true->∀b c,fl≠ .nM b c:=by first|(intro h;cases h;done)|(intro _ b c h;cases h)):aR q size j fl i new μ K:=by
 refine⟨hb,U,?_⟩;cases new with
 |nil=>exact hK fl μ (by simpa using h) (λb o x A=>⟨x,A⟩)
 |cons r rs=>
  show Xu q size fl i.length (r::rs).length μ K;have O:∀b c,μ b=none->K (.nM b c) (μ.set b (some (.nM ((i.length+(r::rs).length)*size) (c*size)))):=λb c C=>by
   refine hK _ _ (Mem.ao _ _ _) λL o x A=>?_;have G:L≠b:=by rintro rfl;rw[C]at x;cases x
   exact⟨by rw[Mem.ax _ _ G];exact x,G⟩
  cases fl with
  |sh=>exact h
  |nr=>exact λb c C _=>O b c C
  |nil=>exact λb c C _=>O b c C
  |nM b c=>
   cases q with
   |true=>exact absurd rfl (Y rfl b c)
   |false=>
    refine⟨h,λL c' J _=>hK _ _ (Mem.ao _ _ _) λQ o x A=>?_⟩;have A:Q≠b:=A;have G:Q≠L:=by
     rintro rfl;rcases J with e|e
     .exact A e
     .rw[e]at x;cases x
    exact⟨by rw[Mem.ax _ _ G,Mem.ax _ _ A];exact x,G⟩
def aR.Qt{q:Bool}{size i:Nat}{fl:Fl}{e new:Lq}{μ:Mem}{K:Fl->Mem->Prop}(h:mq fl e.length size μ)(C:(e.length+new.length)*i<=140737488355328)(y:e.length+new.length<4611686018427387904)
  (hK:∀x j,mq x (e.length+new.length) size j->K x j) (A:q=true->∀b c,fl≠ .nM b c:=by first|(intro h;cases h;done)|(intro _ b c h;cases h)):aR q size i fl e new μ K:=aR.go h C y (λx j G _=>hK x j G) A
def bP.mono{P:Program}{f:PV}{args:List PV}{μ:Mem}{K K':Kq}(h:bP P f args μ K)(j:∀v i,K v i->K' v i):bP P f args μ K':=by
 unfold bP at h |-;split at h
 .exact h.mono j
 .intro Z u fv x C y G ha;refine pX.mono (h Z u fv x C y G ha) λv O L _ _ hp=>?_;obtain⟨J,i,p,e,I,A,hK⟩:=hp;exact⟨J,i,p,e,I,A,j p i hK⟩
def Mem.set_set(μ:Mem)(b:Nat)(o e:Option Ob):(μ.set b o).set b e=μ.set b e:=by
 funext c;by_cases h:c=b
 .subst h;simp
 .rw[Mem.ax _ _ h,Mem.ax _ _ h,Mem.ax _ _ h]
def PV.iV:PV->Bool
 | .raw _=>true
 |_=>false
def PV.EE:PV->Bool
 | .raw _=>true
 | .agg cs=>cs.all PV.iV
 |_=>false
def PV.flat:PV->Bool
 | .raw _=>true
 | .agg cs=>cs.all PV.iV
 | .aB e=>e.all PV.EE
 |_=>false
def bW.iV{Z x:Fz}{p:PV}{v:Value}(e:p.iV=true)(h:bW Z p v):bW x p v:=by
 cases p<;>simp[PV.iV]at e;obtain⟨rfl,j,i⟩:=h.ofRaw;exact .raw _ j i
def bW.EE{Z j:Fz}{p:PV}{v:Value}(e:p.EE=true)(h:bW Z p v):bW j p v:=by
 cases p<;>simp only[PV.EE]at e<;>try (cases e;done)
 .exact h.iV (by rfl)
 .obtain⟨x,rfl,hc⟩:=h.qK;exact bx.sI ⟨hc.1,λi p v a b=>⟨(hc.2 i p v a b).1,(hc.2 i p v a b).2.iV (all_eq_true.1 e p (mem_of_getElem? a))⟩⟩
def bW.flat{Z j:Fz}{p:PV}{v:Value}(e:p.flat=true)(h:bW Z p v):bW j p v:=by
 cases p<;>simp only[PV.flat]at e<;>try (cases e;done)
 .exact h.iV (by rfl)
 .exact h.EE e
 .obtain⟨x,rfl,hc⟩:=h.Bv;exact br.vk ⟨hc.1,λi p v a b=>⟨(hc.2 i p v a b).1,(hc.2 i p v a b).2.EE (all_eq_true.1 e p (mem_of_getElem? a))⟩⟩
structure SlM(μ:Mem)(a:Option Addr)(n c sz:Nat)(rows:Lq):Prop where
 len:rows.length=n
 cap:n<=c
 spot:c=0\/gq a
 each:∀r∈rows,r.length=sz
 cell:aV rows.flatten=true
 read:n≠0->∃b o,a=some ⟨b,o,none⟩/\ay μ b o (n*sz)=some rows.flatten
def cellsOf:Option Ob->Option (List PV)
 |some (.cells _ cs)=>some cs
 |some (.ro _ cs)=>some cs
 |_=>none
def hY(Z:Fz)(u:UW)(μ:Mem):Fz:=λb=>match cellsOf (μ b)with|some _=>(match u.heap[b]? with|some (.cells A _ _)=>some A.toList|_=>none)|none=>Z b
def uj{Z:Fz}{u:UW}{μ:Mem}(j:Good Z u μ){b:Nat}{cs:List PV}(h:cellsOf (μ b)=some cs):Z b=none/\∃(A:Array Value) (T:TypeId),u.heap[b]?=some (.cells A T (0,0))/\cQ Z cs A.toList:=by
 unfold cellsOf at h;split at h
 .rename_i T x e;cases h;obtain⟨_,hz,A,i,hc⟩:=j.mem b _ e;exact⟨hz,A,T,i,hc⟩
 .rename_i T x e;cases h;obtain⟨_,hz,A,i,hc⟩:=j.mem b _ e;exact⟨hz,A,T,i,hc⟩
 .cases h
def gP{Z:Fz}{u:UW}{μ:Mem}(i:Good Z u μ):Z.le (hY Z u μ):=λb C e=>by
 refine⟨C,?_,prefix_refl _⟩;unfold hY;split
 .rename_i cs h;have hz:=(uj i h).1;rw[hz]at e;cases e
 .exact e
def NU{Z:Fz}{u:UW}{μ:Mem}(h:Good Z u μ){b:Nat}{cs:List PV}(e:cellsOf (μ b)=some cs):∃A:Array Value,hY Z u μ b=some A.toList/\cQ Z cs A.toList:=by
 obtain⟨hz,A,T,i,hc⟩:=uj h e;refine⟨A,?_,hc⟩;unfold hY;rw[e];simp only[i]
def Zt{μ:Mem}{b o n:Nat}{r:List PV}(h:ay μ b o n=some r):∃cs,cellsOf (μ b)=some cs/\o+n<=cs.length/\r=(cs.drop o).take n:=by
 unfold ay at h;split at h
 .rename_i e;split at h
  .rename_i i;cases h;exact⟨_,by rw[e];rfl,i,rfl⟩
  .cases h
 .rename_i e;split at h
  .rename_i i;cases h;exact⟨_,by rw[e];rfl,i,rfl⟩
  .cases h
 .cases h
inductive dL(μ:Mem):PV->PV->Prop where
 |same (c:PV):dL μ c c
 |wk (c:PV):dL μ c (cb c)
 |nil (sz:Nat) (rows:Lq):dL μ (.list sz .nil rows) (.raw (.slice none 0 0))
 |Dk (a:Option Addr) (k sz:Nat) (spot:k=0\/gq a):dL μ (.raw (.slice a 0 k)) (.list sz .sh [])
 |XW (b o k sz:Nat) (rows:Lq) (cs:List PV) (cap:rows.length<=k) (each:∀r∈rows,r.length=sz) (cell:aV rows.flatten=true) (read:ay μ b o (rows.length*sz)=some cs) (h:∀(i:Nat) c d,cs[i]?=some c->rows.flatten[i]?=some d->dL μ c d):dL μ (.raw (.slice (some ⟨b,o,none⟩) rows.length k)) (.list sz .sh rows)
 |agg {cs ds:List PV} (hl:cs.length=ds.length) (cell:aV ds=true) (h:∀(i:Nat) c d,cs[i]?=some c->ds[i]?=some d->dL μ c d):dL μ (.agg cs) (.agg ds)
 |aB {cs ds:List PV} (hl:cs.length=ds.length) (ok:∀d∈ds,d.ok=true) (h:∀(i:Nat) c d,cs[i]?=some c->ds[i]?=some d->dL μ c d):dL μ (.aB cs) (.aB ds)
def dL.rep{Z:Fz}{u:UW}{μ:Mem}(Q:Good Z u μ){c d:PV}(hb:dL μ c d):∀{v:Value},bW Z c v->bW (hY Z u μ) d v:=by
 induction hb with
 |same=>exact λe=>e.mono (gP Q)
 |wk=>exact λe=>e.cb.mono (gP Q)
 |nil sz rows=>
  intro v e;cases e with
  |list _ _ _ _ _ _ b o C g hn hc hs e ha hgg hk hp hf=>
   obtain⟨rfl,rfl,rfl⟩:=hf;exact .raw _ rfl rfl
 |Dk a k sz spot=>
  intro v e;rw[e.ofRaw.1];exact .list sz .sh [] a 0 k 0 0 [] (λ_ _=>undef) rfl (zero_le _) spot (by simp) (λh=>absurd rfl h) (λi j y=>by omega) (by simp) (by simp) trivial
 |XW b o k sz rows cs cap each cell read h L=>
  intro v e;rw[e.ofRaw.1];obtain⟨I,hm,J,rfl⟩:=Zt read;obtain⟨A,hz,O⟩:=NU Q hm;have WN:A.toList.length=I.length:=O.1;have lj:rows.flatten.length=rows.length*sz:=eo each;have G:bx (hY Z u μ) rows.flatten ((A.toList.drop o).take (rows.length*sz)):=by
   refine⟨by rw[List.length_take,length_drop,lj];omega,λi d v x G=>?_⟩;have U:d.cell=true:=by
    have:=all_eq_true.1 cell d (mem_of_getElem? x);exact this
   have y:i<rows.length*sz:=by rw[<- lj];exact(List.getElem?_eq_some_iff.1 x).1
   have hc:((I.drop o).take (rows.length*sz))[i]?=some (I[o+i]'(by omega)):=by
    rw[getElem?_take,if_pos y,getElem?_drop,getElem?_eq_getElem (by omega)]
   rw[getElem?_take,if_pos y,getElem?_drop]at G;exact⟨U,L i _ d hc x (O.2 (o+i) _ v (getElem?_eq_getElem (by omega)) G)⟩
  exact qC (Z:=hY Z u μ) (sz:=sz) (fl:=.sh) (rows:=rows) (b:=b) (o:=o) (c:=k) (C:=A.toList) each G hz (λj hj=>by
   rw[getElem?_take,if_pos (by simp at hj;omega),getElem?_drop]) cap trivial
 |agg J cell h L=>
  intro v e;obtain⟨vs,rfl,hc⟩:=e.qK;refine bx.sI ⟨hc.1.trans J,λi d v x G=>?_⟩;rename_i cs ds;have Y:i<cs.length:=by rw[J];exact(List.getElem?_eq_some_iff.1 x).1
  have y:cs[i]?=some cs[i]:=getElem?_eq_getElem Y;exact⟨all_eq_true.1 cell d (mem_of_getElem? x),L i _ d y x (hc.2 i _ v y G).2⟩
 |aB J ok h L=>
  intro v e;obtain⟨vs,rfl,hc⟩:=e.Bv;refine br.vk ⟨hc.1.trans J,λi d v x G=>?_⟩;rename_i cs ds;have Y:i<cs.length:=by rw[J];exact(List.getElem?_eq_some_iff.1 x).1
  have y:cs[i]?=some cs[i]:=getElem?_eq_getElem Y;exact⟨ok d (mem_of_getElem? x),L i _ d y x (hc.2 i _ v y G).2⟩
def dL.list{μ:Mem}{a:Option Addr}{n k j:Nat}{e:Lq}(h:SlM μ a n k j e):dL μ (.raw (.slice a n k)) (.list j .sh e):=by
 by_cases x:n=0
 .have:e=[]:=eq_nil_of_length_eq_zero (by rw[h.len,x]);subst this x;exact .Dk a k j h.spot
 .obtain⟨b,o,rfl,A⟩:=h.read x;obtain rfl:=h.len;exact .XW b o k j e _ h.cap h.each h.cell A λi c d hc y=>by rw[hc]at y;cases y;exact .same _
def cA(μ:Mem)(cs e:List PV):Prop:=cs.length=e.length/\∀(i:Nat) c d,cs[i]?=some c->e[i]?=some d->dL μ c d
def cA.refl(μ:Mem)(cs:List PV):cA μ cs cs:=⟨rfl,λi c d h e=>by rw[h]at e;cases e;exact .same _⟩
def cA.nil(μ:Mem):cA μ [] []:=cA.refl μ []
def cA.cons{μ:Mem}{c d:PV}{cs A:List PV}(h:dL μ c d)(k:cA μ cs A):cA μ (c::cs) (d::A):=⟨by simp[k.1],λi x y j e=>by
 cases i with
 |zero=>simp at j e;subst j e;exact h
 |succ i=>exact k.2 i x y j e⟩
def cA.rep{Z:Fz}{u:UW}{μ:Mem}(G:Good Z u μ){cs A:List PV}{h:List Value}(e:cA μ cs A)(j:cQ Z cs h):cQ (hY Z u μ) A h:=by
 refine⟨j.1.trans e.1,λi d v y C=>?_⟩;have I:i<cs.length:=by rw[e.1];exact(List.getElem?_eq_some_iff.1 y).1
 have x:cs[i]?=some cs[i]:=getElem?_eq_getElem I;exact(e.2 i _ d x y).rep G (j.2 i _ v x C)
def gO{Z:Fz}{u:UW}{μ:Mem}{b:Nat}(h:μ b=none):hY Z u μ b=Z b:=by
 unfold hY;rw[h];rfl
def om{Z:Fz}{u:UW}{μ h:Mem}(i:Good Z u μ):∀b C,hY Z u h b=some C->∃A T f,u.heap[b]?=some (.cells A T f)/\C <+: A.toList:=λb C e=>by
 unfold hY at e;split at e
 .split at e
  .rename_i A T f j;cases e;exact⟨A,T,f,j,prefix_refl _⟩
  .cases e
 .exact i.Da b C e
def aa.query{P:Program}{g:FuncId}{args:List PV}{μ ν μ1:Mem}{K:Kq}{Kq:PV->Prop}(h:aa P g args ν λp _=>Kq p)(h1:∀b o,μ1 b=some o->μ b=some o)
  (y:∀b o,ν b=some o->μ1 b=none/\∃T cs Q,o=.ro T Q/\μ b=some (.cells T cs)/\cA μ1 cs Q) (O:∀p,Kq p->p.flat=true) (hk:∀p,Kq p->K p μ):aa P g args μ K:=λZ u vs i hw ha=>by
 have Ph:Good Z u μ1:=i.sub h1;have J:=gP Ph;have L:Good (hY Z u μ1) ⟨u.toWorld,λ_=>False⟩ ν:=by
  refine⟨om i,λb o x=>?_⟩;obtain⟨hn,T,cs,Q,rfl,I,j⟩:=y b o x;obtain⟨_,hz,A,hA,hc⟩:=i.mem b _ I;exact⟨λG=>(by cases G),(gO hn).trans hz,A,hA,j.rep Ph hc⟩
 obtain⟨hc,F,U,dc⟩:=h (hY Z u μ1) ⟨u.toWorld,λ_=>False⟩ vs L (λ_ h=>h.elim) (br.mono J ha);refine⟨hc,F,λb j=>(U b j).elim,dc.mono λv lo w' I Ww hp=>?_⟩;obtain⟨Z',μ',p,e,g',G,hK⟩:=hp;have cu:∀b,b<u.heap.size->w'.heap[b]?=u.heap[b]?:=λb j=>I.cu b j λO=>U b O;refine⟨Z,μ,p,i.ext,i.go (Fz.le.refl Z) (λb C Y=>.inl ⟨Y,cu b (i.Al (by rw[Y];simp))⟩) (λb o x=>.inl ⟨x,cu b (i.Qi (by rw[x];simp)),λhp=>.inl hp,rfl⟩),G.flat (O p hK),hk p hK⟩
def GU(μ e:Mem):Prop:=∀(Z:Fz) (u:UW),Good Z u μ->∃h,Ext Z μ u.heap.size h e/\Good h u e
def GU.refl(μ:Mem):GU μ μ:=λZ u e=>⟨Z,e.ext,e⟩
def aa.pre{P:Program}{g:FuncId}{args:List PV}{μ i:Mem}{K:Kq}(J:GU μ i)(h:aa P g args i K):aa P g args μ K:=λZ u y I C ha=>by
 obtain⟨U,e,O⟩:=J Z u I;obtain⟨hc,F,L,h⟩:=h U u y O C (br.mono e.le ha);refine⟨hc,F,L,h.mono λv lo Y _ hs hp=>?_⟩;obtain⟨x,A,p,Q,j,G,hK⟩:=hp;exact⟨x,A,p,e.trans Q (le_refl _),j,G,hK⟩
def aa.post{P:Program}{g:FuncId}{args:List PV}{μ:Mem}{K:Kq}(h:aa P g args μ λv i=>∃j,GU i j/\K v j):aa P g args μ K:=λZ u C L G ha=>by
 obtain⟨hc,F,Q,h⟩:=h Z u C L G ha;refine⟨hc,F,Q,h.mono λv lo w' J hs hp=>?_⟩;obtain⟨Y,i,p,e,U,I,j,O,hK⟩:=hp;obtain⟨y,A,x⟩:=O Y _ U;exact⟨y,j,p,e.trans A J.size,x,I.mono A.le,hK⟩
def GU.LZ{μ μ1 j:Mem}(O:∀b o,μ1 b=some o->μ b=some o)(h:∀b o,j b=some o->μ1 b=none/\(μ b=some o\/∃T cs J,o=.cells T J/\μ b=some (.cells T cs)/\cA μ1 cs J)):GU μ j:=λZ u G=>by
 have U:Good Z u μ1:=G.sub O;have y:=gP U;have L:∀b,μ b=none->μ1 b=none:=λb i=>by
  cases x:μ1 b with
  |none=>rfl
  |some o=>rw[O b o x]at i;cases i
 refine⟨hY Z u μ1,⟨y,λb C hC I=>?_,λb i=>?_,λb i=>?_,λ_ h'=>G.Al h'⟩,om G,λb o Y=>?_⟩
 .rw[gO (L b I)];exact hC
 .cases x:μ1 b with
  |none=>rw[gO x]at i;exact .inl i
  |some o=>exact .inr (.inl (by rw[O b o x];simp))
 .cases x:j b with
  |none=>exact absurd x i
  |some o=>
   rcases(h b o x).2 with e|⟨T,cs,J,_,e,_⟩
   .exact .inl (by rw[e];simp)
   .exact .inl (by rw[e];simp)
 .obtain⟨I,e|⟨T,cs,J,rfl,e,i⟩⟩:=h b o Y
  .obtain⟨Q,g2⟩:=G.mem b o e;exact⟨Q,g2.go y (gO I) rfl⟩
  .obtain⟨Q,hz,A,hA,hc⟩:=G.mem b _ e;exact⟨λ_=>Q rfl,(gO I).trans hz,A,hA,i.rep U hc⟩
def aa.acY{P:Program}{g:FuncId}{args:List PV}{μ:Mem}{K:PV->Prop}(h:aa P g args μ λv i=>∃x,dL i v x/\K x):aa P g args μ λv _=>K v:=λZ u U hg hw ha=>by
 obtain⟨hc,F,hF,h⟩:=h Z u U hg hw ha;refine⟨hc,F,hF,h.mono λv Y Q hm hs hp=>?_⟩;obtain⟨Z',i,p,e,G,hr,x,hb,hK⟩:=hp;have hG:GU i M0:=GU.LZ (μ1:=i) (λ_ _ h=>h) λb o h=>by cases h
 have j:=gP G;refine⟨hY Z' (u.ret Y Q) i,M0,x,⟨e.le.trans j,λb C J I=>?_,λb y=>?_,λb y=>absurd rfl y,e.lt⟩,⟨om G,λb o h=>by cases h⟩,hb.rep G hr,hK⟩
 .have O:=e.zs b C J I;obtain⟨C',h2,_⟩:=j b C O;have:i b=none:=by
   cases A:i b with
   |none=>rfl
   |some o=>
    rcases e.mn b (by rw[A];simp)with L|L
    .exact absurd I L
    .have:=e.lt b (by rw[J];simp);omega
  rw[gO this];exact O
 .cases A:i b with
  |none=>rw[gO A]at y;exact e.zn b y
  |some o=>exact .inr (e.mn b (by rw[A];simp))
def Xw(Z:Fz)(u:UW):hY Z u M0=Z:=by funext b;exact gO rfl
def aa.conv{P:Program}{g:FuncId}{args:List PV}{μ:Mem}{K:Kq}(h:aa P g args μ λv μ'=>∃i,dL M0 v i/\K i μ'):aa P g args μ K:=λZ u x C y ha=>by
 obtain⟨hc,F,I,h⟩:=h Z u x C y ha;refine⟨hc,F,I,h.mono λv O L U Q hp=>?_⟩;obtain⟨J,μ',p,e,j,A,i,G,hK⟩:=hp;have:=G.rep (j.sub (μ':=M0) λb o h=>by cases h) A;rw[Xw]at this;exact⟨J,μ',i,e,j,this,hK⟩
def aa.view{P:Program}{g:FuncId}{args y:List PV}{μ:Mem}{K:Kq}{J:PV->Prop}(h:av P g y J)(U:args.length=y.length)(x:∀(i:Nat) p q,args[i]?=some p->y[i]?=some q->dL μ p q/\q.ok=true)(G:∀p,J p->p.flat=true)(hk:∀p,J p->K p μ):aa P g args μ K:=λZ u L j hw ha=>by
 have A:Good (hY Z u μ) ⟨u.toWorld,λ_=>False⟩ M0:=⟨om j,λb o h=>by cases h⟩
 have I:br (hY Z u μ) y L:=⟨ha.1.trans U,λi q v O hv=>by
  have bK:i<args.length:=by rw[U];exact(List.getElem?_eq_some_iff.1 O).1
  have hp:args[i]?=some args[i]:=getElem?_eq_getElem bK
  obtain⟨h1,h2⟩:=x i _ q hp O
  exact⟨h2,h1.rep j (ha.2 i _ v hp hv).2⟩⟩
 obtain⟨hc,F,Y,dc⟩:=h (hY Z u μ) ⟨u.toWorld,λ_=>False⟩ L A (λ_ h=>h.elim) I;refine⟨hc,F,λb x=>(Y b x).elim,dc.mono λv lo w' hm Ww hp=>?_⟩;obtain⟨Z',μ',p,e,g',hr,hK⟩:=hp;have cu:∀b,b<u.heap.size->w'.heap[b]?=u.heap[b]?:=λb x=>hm.cu b x λG=>Y b G;refine⟨Z,μ,p,j.ext,j.go (Fz.le.refl Z) (λb C hC=>.inl ⟨hC,cu b (j.Al (by rw[hC];simp))⟩) (λb o Q=>.inl ⟨Q,cu b (j.Qi (by rw[Q];simp)),λhp=>.inl hp,rfl⟩),hr.flat (G p hK),hk p hK⟩
def aa.freeze{P:Program}{g:FuncId}{args:List PV}{μ:Mem}{K K':Kq}(h:aa P g args μ K)(hk:∀v i,K v i->∃(U:PV) (J:Mem) (y:List Nat),(∀Z u r,Good Z u i->bW Z v r->bW (hY Z u λb=>if b∈y then i b else none) U r)/\(∀b o,J b=some o->i b=some o/\b∉y)/\K' U J):aa P g args μ K':=λZ u vs hg hw ha=>by
 obtain⟨hc,h⟩:=h Z u vs hg hw ha;refine⟨hc,h.Bz λv lo w' _ _ hp=>?_⟩;obtain⟨Q,i,p,e,g',hr,hK⟩:=hp;obtain⟨U,J,y,h1,h2,h3⟩:=hk p i hK;have Y:Good Q (u.ret lo w') (λb=>if b∈y then i b else none):=g'.sub λb o j=>by
  by_cases G:b∈y
  .rw[if_pos G]at j;exact j
  .rw[if_neg G]at j;cases j
 have I:∀b,b∉y->hY Q (u.ret lo w') (λb=>if b∈y then i b else none) b=Q b:=λb j=>by
  unfold hY;simp[j,cellsOf]
 refine⟨hY Q (u.ret lo w') (λb=>if b∈y then i b else none),J,U,⟨e.le.trans (gP Y),λb C x hn=>?_,λb j=>?_,λb j=>?_,e.lt⟩,g'.go (gP Y) (λb C x=>?_) (λb o ho=>?_),h1 Q _ _ g' hr,h3⟩
 .have O:=e.zs b C x hn;obtain⟨C',h5,_⟩:=gP Y b C O;unfold hY at h5 |-;split
  .rename_i cs G;have hz:=(uj Y G).1;rw[O]at hz;cases hz
  .exact O
 .by_cases G:b∈y
  .cases L:i b with
   |none=>unfold hY at j;simp[G,L,cellsOf]at j;exact e.zn b j
   |some o=>exact .inr (e.mn b (by rw[L];simp))
  .rw[I b G]at j;exact e.zn b j
 .cases L:J b with
  |none=>exact absurd L j
  |some o=>exact e.mn b (by rw[(h2 b o L).1];simp)
 .by_cases G:b∈y
  .unfold hY at x;split at x
   .split at x
    .rename_i A T f hA;cases x;exact .inr ⟨A,T,f,hA,prefix_refl _⟩
    .cases x
   .exact .inl ⟨x,rfl⟩
  .rw[I b G]at x;exact .inl ⟨x,rfl⟩
 .obtain⟨O,h5⟩:=h2 b o ho;exact .inl ⟨O,rfl,id,I b h5⟩
def aA{T:Type}{pv:T->List PV}{l:List T}{k:Nat}(e:k<l.length):(l.map pv)[Int.toNat (k:Int)]?=some (pv l[k]):=by
 rw[Int.toNat_natCast,List.getElem?_map,getElem?_eq_getElem e];rfl
def jN(w:World):Fz:=λb=>match w.heap[b]? with|some (.cells A _ _)=>some A.toList|_=>none
def Xx{w:World}{b:Nat}{A:Array Value}{T:TypeId}{f:Nat×Nat}(h:w.heap[b]?=some (.cells A T f)):jN w b=some A.toList:=by simp[jN,h]
def PZ(w:World):Good (jN w) ⟨w,λ_=>False⟩ M0:=by
 refine⟨λb C e=>?_,λb o h=>by cases h⟩;unfold jN at e;split at e
 .rename_i A T f h;cases e;exact⟨A,T,f,h,prefix_refl _⟩
 .cases e
def av.calls{P:Program}{g:FuncId}{args:List PV}{K:PV->Prop}{w:World}{vs:List Value}(h:av P g args K)(ha:br (jN w) args vs):Calls P g vs.toArray w λe w'=>(∃v p Z,e=.returned v/\bW Z p v/\K p)/\Below w.heap.size w w':=by
 obtain⟨_,F,G,I⟩:=h (jN w) ⟨w,λ_=>False⟩ vs (PZ w) (λ_ h=>h.elim) ha;refine(I w (yG.refl w)).mono λe w' ⟨v,L,A,i,J,j,p,_,_,x,hK⟩=>⟨⟨v,p,J,A,x,hK⟩,?_⟩;exact⟨i.mod.os,i.mod.tape,i.mod.output,i.mod.size,λb C=>i.mod.cu b C λy=>G b y⟩
structure Mv(μ μ':Mem)(F F':List Nat):Prop where
 cu:∀x,μ x≠none->x∉F->μ' x=μ x
 grow:∀x∈F',x∈F\/μ x=none
def Mv.refl(μ:Mem)(F:List Nat):Mv μ μ F F:=⟨λ_ _ _=>rfl,λ_ h=>.inl h⟩
def Mv.trans{μ j C:Mem}{F F' A:List Nat}(h:Mv μ j F F')(k:Mv j C F' A):Mv μ C F A:=by
 have J:∀x,μ x≠none->x∉F->C x=μ x:=λx y G=>by
  have e:=h.cu x y G;have O:x∉F':=λL=>by
   rcases h.grow x L with i|i
   .exact G i
   .exact y i
  rw[k.cu x (by rw[e];exact y) O,e]
 refine⟨J,λx y=>?_⟩;rcases k.grow x y with i|i
 .exact h.grow x i
 .by_cases I:x∈F
  .exact .inl I
  .right;cases hm:μ x with
   |none=>rfl
   |some o=>rw[h.cu x (by rw[hm];simp) I,hm]at i;cases i
def Mv.wide{μ e:Mem}{F F' G:List Nat}(h:Mv μ e F F')(y:∀x∈F,x∈G):Mv μ e G (F'++G):=⟨λx i A=>h.cu x i λC=>A (y x C),λx i=>by
 rcases List.mem_append.1 i with j|j
 .exact(h.grow x j).imp (y x) id
 .exact .inl j⟩
def Mv.sub{μ μ':Mem}{F F' G:List Nat}(h:Mv μ μ' F F')(i:∀x∈G,x∈F'):Mv μ μ' F G:=⟨h.cu,λx e=>h.grow x (i x e)⟩
def Mv.set{μ:Mem}{b:Nat}{o:Option Ob}{F:List Nat}(h:b∈F\/μ b=none):Mv μ (μ.set b o) F (b::F):=⟨λx e i=>by
 have:x≠b:=by
  rintro rfl
  rcases h with h|h
  .exact i h
  .exact e h
 exact Mem.ax _ _ this,λx e=>by
 rcases mem_cons.1 e with rfl|j
 .exact h
 .exact .inl j⟩
def ED{e:Nat}:∀{R:Lq} {s:Nat},(∀r∈R,r.length=e)->s<=R.length->(R.flatten).take (s*e)=(R.take s).flatten
 |R,0,_,_=>by simp
 |[],s+1,_,h=>by simp at h
 |r::R,s+1,j,h=>by
  have i:r.length=e:=j r (by simp)
  rw[flatten_cons,List.take_succ_cons,flatten_cons,succ_mul,Nat.add_comm,<- i,List.take_length_add_append,i,ED (λx y=>j x (by simp[y])) (by simpa using h)]
def yo{e:Nat}:∀{R:Lq} {s:Nat},(∀r∈R,r.length=e)->s<=R.length->(R.flatten).drop (s*e)=(R.drop s).flatten
 |R,0,_,_=>by simp
 |[],s+1,_,h=>by simp at h
 |r::R,s+1,j,h=>by
  have i:r.length=e:=j r (by simp)
  rw[flatten_cons,List.drop_succ_cons,succ_mul,Nat.add_comm,<- i,List.drop_length_add_append,i,yo (λx y=>j x (by simp[y])) (by simpa using h)]
def Ig{μ:Mem}{b h s:Nat}{e:TypeId}{R:Lq}{i r:List PV}(y:∀r∈R,r.length=h)(G:μ b=some (.cells e (R.flatten++i)))(x:R[s]?=some r):ay μ b (s*h) h=some r:=by
 have j:s<R.length:=(List.getElem?_eq_some_iff.1 x).1;have C:r.length=h:=y r (mem_of_getElem? x);have A:R.flatten.length=R.length*h:=eo y;have I:s*h+h<=R.flatten.length:=by rw[A,<- succ_mul];exact mul_le_mul_right _ j
 simp only[ay,G];rw[if_pos (by rw[length_append];omega),List.drop_append_of_le_length (by omega),yo y (Nat.le_of_lt j),List.drop_eq_getElem_cons j,flatten_cons,List.append_assoc];have:R[s]=r:=by have:=getElem?_eq_getElem j;rw[x]at this;exact(Option.some.inj this).symm
 rw[this,<- C,take_left'];rfl
def DI{e s:Nat}{R:Lq}{h r:List PV}(x:∀r∈R,r.length=e)(i:s<R.length)(A:r.length=e):du (R.flatten++h) (s*e) r=(R.set s r).flatten++h:=by
 have y:R.flatten.length=R.length*e:=eo x;have j:s*e+e<=R.flatten.length:=by rw[y,<- succ_mul];exact mul_le_mul_right _ i
 unfold du;rw[List.take_append_of_le_length (by omega),ED x (Nat.le_of_lt i),A,List.drop_append_of_le_length j,show s*e+e=(s+1)*e by rw[succ_mul],yo x i,List.set_eq_take_append_cons_drop,if_pos i];simp[flatten_append]
def s_(y e:TypeId)(x:Nat)(μ:Mem)(b:Nat)(h:Lq)(F:List Nat):Prop:=
 (F=[b]/\h=[]/\μ b=some (.cells y [.raw (.slice none 0 0),pB false]))\/
 (∃j c i,F=[b,j]/\j≠b/\μ b=some (.cells y [.raw (.slice (some ⟨j,0,none⟩) h.length c),pB false])/\μ j=some (.cells e (h.flatten++i))/\h.length*x+i.length=c*x/\h.length<=c)
structure iB(Ts e:TypeId)(sz:Nat)(μ:Mem)(b:Nat)(rows:Lq)(F:List Nat):Prop where
 each:∀r∈rows,r.length=sz
 cell:aV rows.flatten=true
 OX:(F=[b]/\μ b=some (.cells Ts [.list sz .sh rows,pB true]))\/(F=[b]/\rows=[]/\μ b=some (.cells Ts [.list sz .nil [],pB false]))\/s_ Ts e sz μ b rows F
def s_.at_{G e:TypeId}{A:Nat}{μ:Mem}{b:Nat}{i:Lq}{F:List Nat}(h:s_ G e A μ b i F):b∈F/\∀x∈F,μ x≠none:=by
 rcases h with⟨rfl,_,h⟩|⟨I,c,j,rfl,_,h,C,_⟩
 .simp[h]
 .refine⟨by simp,λx y=>?_⟩;simp only[mem_cons,List.not_mem_nil,or_false]at y;rcases y with rfl|rfl
  .rw[h];simp
  .rw[C];simp
def iB.at_{A e:TypeId}{y:Nat}{μ:Mem}{b:Nat}{i:Lq}{F:List Nat}(h:iB A e y μ b i F):b∈F/\∀x∈F,μ x≠none:=by
 rcases h.OX with⟨rfl,j⟩|⟨rfl,_,j⟩|j
 .simp[j]
 .simp[j]
 .exact j.at_
def iB.same{O e:TypeId}{I:Nat}{μ y:Mem}{b:Nat}{i:Lq}{F:List Nat}(h:iB O e I μ b i F)(J:∀x∈F,y x=μ x):iB O e I y b i F:=by
 have G:=J b h.at_.1;refine⟨h.each,h.cell,?_⟩;rcases h.OX with⟨rfl,j⟩|⟨rfl,C,j⟩|⟨rfl,C,j⟩|⟨L,c,A,rfl,C,j,U,Q⟩
 .exact .inl ⟨rfl,by rw[G];exact j⟩
 .exact .inr (.inl ⟨rfl,C,by rw[G];exact j⟩)
 .exact .inr (.inr (.inl ⟨rfl,C,by rw[G];exact j⟩))
 .exact .inr (.inr (.inr ⟨L,c,A,rfl,C,by rw[G];exact j,by rw[J L (by simp)];exact U,Q⟩))
def s_.slM{O e:TypeId}{A:Nat}{μ:Mem}{b:Nat}{i:Lq}{F:List Nat}(h:s_ O e A μ b i F)(G:∀r∈i,r.length=A)(hc:aV i.flatten=true):
  ∃a c y,μ b=some (.cells O [.raw (.slice a i.length c),pB false])/\(∀x o,y x=some o->μ x=some o/\x∈F/\x≠b)/\(∀x∈F,x≠b->y x=μ x)/\SlM y a i.length c A i:=by
 rcases h with⟨rfl,rfl,h⟩|⟨C,c,J,rfl,h0,Y,U,h3,Q⟩
 .exact⟨none,0,M0,h,λx o j=>(by cases j),λx j I=>absurd (by simpa using j) I,rfl,le_refl _,.inl rfl,G,hc,λh=>absurd rfl h⟩
 .refine⟨_,c,M0.set C (μ C),Y,λx o j=>?_,λx j I=>?_,rfl,Q,.inr λx j=>by cases j;rfl,G,hc,λ_=>⟨C,0,rfl,?_⟩⟩
  .by_cases e:x=C
   .subst e;rw[Mem.ao]at j;exact⟨j,by simp,h0⟩
   .rw[Mem.ax _ _ e]at j;cases j
  .simp only[mem_cons,List.not_mem_nil,or_false]at j;rw[j.resolve_left I,Mem.ao]
  .have L:i.flatten.length=i.length*A:=eo G;simp only[ay,Mem.ao,U];rw[if_pos (by simp[L]),drop_zero,<- L,take_left'];rfl
def iB.query{P:Program}{g:FuncId}{args:List PV}{C e:TypeId}{A:Nat}{μ:Mem}{b:Nat}{i:Lq}{F:List Nat}{K:Kq}{Kq:PV->Prop}(h:iB C e A μ b i F)
  (hc:∀s,aa P g args (M0.set b (some (.ro C [.list A .sh i,pB s]))) λp _=>Kq p) (I:∀p,Kq p->p.flat=true) (G:∀p,Kq p->K p μ):aa P g args μ K:=by
 have one:∀{s:Bool} {μ1:Mem} {c:PV},μ1 b=none->μ b=some (.cells C [c,pB s])->dL μ1 c (.list A .sh i)->∀x o,(M0.set b (some (.ro C [.list A .sh i,pB s]))) x=some o->μ1 x=none/\∃T cs L,o=.ro T L/\μ x=some (.cells T cs)/\cA μ1 cs L:=λU y Y x o j=>by
  by_cases e:x=b
  .subst e;rw[Mem.ao]at j;cases j;exact⟨U,C,_,_,rfl,y,cA.cons Y (cA.refl _ _)⟩
  .rw[Mem.ax _ _ e]at j;cases j
 rcases h.OX with⟨rfl,y⟩|⟨rfl,h0,y⟩|Q
 .exact aa.query (hc true) (μ1:=M0) (λ_ _ h=>by cases h) (one rfl y (.same _)) I G
 .subst h0;exact aa.query (hc false) (μ1:=M0) (λ_ _ h=>by cases h) (one rfl y (.wk (.list A .nil []))) I G
 .obtain⟨a,c,μ1,y,J,_,O⟩:=Q.slM h.each h.cell;refine aa.query (hc false) (μ1:=μ1) (λx o j=>(J x o j).1) (one ?_ y (.list O)) I G;cases j:μ1 b with
  |none=>rfl
  |some o=>exact absurd rfl (J b o j).2.2
def iB.list{A e:TypeId}{C:Nat}{μ:Mem}{b:Nat}{j:Lq}{F:List Nat}(h:iB A e C μ b j F):∃y s,GU μ y/\y b=some (.cells A [.list C .sh j,pB s])/\Mv μ y F [b]:=by
 rcases h.OX with⟨rfl,G⟩|⟨rfl,U,G⟩|J
 .exact⟨μ,true,GU.refl μ,G,Mv.refl _ _⟩
 .subst U;refine⟨μ.set b (some (.cells A [.list C .sh [],pB false])),false,GU.LZ (μ1:=M0) (λ_ _ h=>by cases h) λx o i=>⟨rfl,?_⟩,Mem.ao _ _ _,(Mv.set (.inl (by simp))).sub (by simp)⟩;by_cases e:x=b
  .subst e;rw[Mem.ao]at i;cases i;exact .inr ⟨A,_,_,rfl,G,cA.cons (.wk (.list C .nil [])) (cA.refl _ _)⟩
  .rw[Mem.ax _ _ e]at i;exact .inl i
 .obtain⟨a,c,μ1,G,L,h2,O⟩:=J.slM h.each h.cell;have Q:μ1 b=none:=by
   cases i:μ1 b with
   |none=>rfl
   |some o=>exact absurd rfl (L b o i).2.2
  refine⟨λx=>if x=b then some (.cells A [.list C .sh j,pB false])else if μ1 x=none then μ x else none,false,GU.LZ (μ1:=μ1) (λx o i=>(L x o i).1) λx o i=>?_,if_pos rfl,⟨λx i I=>?_,λx i=>.inl (by simp at i;rw[i];exact J.at_.1)⟩⟩
  .by_cases e:x=b
   .subst e;rw[if_pos rfl]at i;cases i;exact⟨Q,.inr ⟨A,_,_,rfl,G,cA.cons (.list O) (cA.refl _ _)⟩⟩
   .rw[if_neg e]at i;split at i
    .rename_i I;exact⟨I,.inl i⟩
    .cases i
  .have Y:x≠b:=by rintro rfl;exact I J.at_.1
   simp only[if_neg Y];rw[if_pos];cases Gd:μ1 x with
   |none=>rfl
   |some o=>exact absurd (L x o Gd).2.1 I
def iB.raw{y e:TypeId}{A:Nat}{μ:Mem}{b:Nat}{i:Lq}{F:List Nat}(h:iB y e A μ b i F):∃j,GU μ j/\Mv μ j F F/\((F=[b]/\j b=some (.cells y [.list A .sh i,pB true]))\/s_ y e A j b i F):=by
 rcases h.OX with⟨rfl,G⟩|⟨rfl,J,G⟩|I
 .exact⟨μ,GU.refl μ,Mv.refl _ _,.inl ⟨rfl,G⟩⟩
 .subst J;refine⟨μ.set b (some (.cells y [.raw (.slice none 0 0),pB false])),GU.LZ (μ1:=M0) (λ_ _ h=>by cases h) λx o C=>⟨rfl,?_⟩,(Mv.set (.inl (by simp))).sub (by simp),.inr (.inl ⟨rfl,rfl,Mem.ao _ _ _⟩)⟩;by_cases e:x=b
  .subst e;rw[Mem.ao]at C;cases C;exact .inr ⟨y,_,_,rfl,G,cA.cons (.nil A []) (cA.refl _ _)⟩
  .rw[Mem.ax _ _ e]at C;exact .inl C
 .exact⟨μ,GU.refl μ,Mv.refl _ _,.inr I⟩
def s_.app{Ts e:TypeId}{x:Nat}{μ:Mem}{b:Nat}{i:Lq}{F:List Nat}(h:s_ Ts e x μ b i F)(hr:∀r∈i,r.length=x):∃a c,μ b=some (.cells Ts [.raw (.slice a i.length c),pB false])/\
  ∀(r:List PV) (j:Nat) (K:Option Addr->Nat->Nat->Mem->Prop),r.length=x->aV r=true->(i.length+1)*j<=140737488355328->i.length+1<4611686018427387904->
   (∀A G y C,A≠b->C b=μ b->C A=some (.cells e ((i++[r]).flatten++y))->(i.length+1)*x+y.length=G*x->i.length+1<=G->Mv μ C F [b,A]->K (some ⟨A,0,none⟩) (i.length+1) G C)->
   eB x j e a i.length c (.list x .nr [r]) μ K:=by
 have ZC:∀r:List PV,qJ x x [r]=true:=λr=>by simp[qJ,beq_refl]
 have U:i.flatten.length=i.length*x:=eo hr;rcases h with⟨rfl,rfl,hm⟩|⟨O,c,y,rfl,h0,h1,h2,h3,h4⟩
 .refine⟨none,0,hm,λr j K hl ij hb Y hK=>?_⟩;unfold eB FV;simp only[ZC,cond_true];refine⟨by simpa using hb,by simpa using Y,le_refl _,.inr ⟨by simp,by simpa using ij,λh=>by simp at h,λ_=>⟨[],.inl ⟨rfl,rfl⟩,λA G I L=>?_⟩⟩⟩;have Q:A≠b:=by rintro rfl;rw[hm]at I;cases I
  refine hK A G (replicate ((G-(0+1))*x) .aU) _ Q (by rw[Mem.ax _ _ (Ne.symm Q)]) ?_ ?_ (by simpa using L) ((Mv.set (.inr I)).sub (by simp))
  .rw[Mem.ao];simp
  .simp only[length_nil,length_replicate];rw[<- add_mul];congr 1;simp at L;omega
 .refine⟨_,c,h1,λr j K hl ij hb Y hK=>?_⟩;unfold eB FV;simp only[ZC,cond_true];have dF:ay μ O 0 (i.length*x)=some i.flatten:=by
   simp only[ay,h2];rw[if_pos (by simp[U]),drop_zero,<- U,take_left'];rfl
  refine⟨by simpa using hb,by simpa using Y,h4,.inr ⟨by simp,by simpa using ij,λJ=>⟨O,0,e,_,rfl,h2,by simp[U,h3],?_⟩,λbK=>⟨_,.inr ⟨O,0,rfl,dF⟩,λA G I L=>?_⟩⟩⟩
  .simp only[length_singleton]at J |-;have Wx:(i.length+1)*x<=c*x:=mul_le_mul_right _ J;have fK:x<=y.length:=by rw[succ_mul]at Wx;omega
   refine hK O c (y.drop x) _ h0 (by rw[Mem.ax _ _ (Ne.symm h0)]) ?_ ?_ J ((Mv.set (.inl (by simp))).sub (by simp))
   .rw[Mem.ao];congr 2;unfold du;rw[zero_add,<- U,take_left' rfl,flatten_cons,flatten_nil,append_nil,List.drop_length_add_append,hl,flatten_append];simp
   .rw[length_drop,succ_mul];omega
  .simp only[length_singleton]at L |-;have Q:A≠b:=by rintro rfl;rw[h1]at I;cases I
   refine hK A G (replicate ((G-(i.length+1))*x) .aU) _ Q (by rw[Mem.ax _ _ (Ne.symm Q)]) ?_ ?_ L ((Mv.set (F:=[b,O]) (.inr I)).sub (by simp))
   .rw[Mem.ao];simp
   .rw[length_replicate,<- add_mul];congr 1;omega
def wF(e:TypeId)(j:Nat)(μ:Mem)(p:PV)(h:Lq)(F:List Nat):Prop:=
 (p=.raw (.slice none 0 0)/\h=[]/\F=[])\/
 (∃b c i,p=.raw (.slice (some ⟨b,0,none⟩) h.length c)/\F=[b]/\μ b=some (.cells e (h.flatten++i))/\h.length*j+i.length=c*j/\h.length<=c)
def wF.at_{e:TypeId}{A:Nat}{μ:Mem}{p:PV}{i:Lq}{F:List Nat}(h:wF e A μ p i F):∀x∈F,μ x≠none:=by
 rcases h with⟨_,_,rfl⟩|⟨b,c,y,_,rfl,h,_⟩
 .intro x j;cases j
 .intro x j;simp at j;subst j;rw[h];simp
def wF.same{e:TypeId}{A:Nat}{μ j:Mem}{p:PV}{i:Lq}{F:List Nat}(h:wF e A μ p i F)(C:∀x∈F,j x=μ x):wF e A j p i F:=by
 rcases h with h|⟨b,c,y,J,rfl,I,G⟩
 .exact .inl h
 .exact .inr ⟨b,c,y,J,rfl,by rw[C b (by simp)];exact I,G⟩
def wF.view{e:TypeId}{j:Nat}{μ:Mem}{p:PV}{i:Lq}{F:List Nat}(h:wF e j μ p i F)(C:∀r∈i,r.length=j)(hc:aV i.flatten=true):dL μ p (.list j .sh i):=by
 rcases h with⟨rfl,rfl,_⟩|⟨b,c,y,rfl,_,J,L,I⟩
 .exact .Dk none 0 j (.inl rfl)
 .have A:i.flatten.length=i.length*j:=eo C;refine .list ⟨rfl,I,.inr λx G=>by cases G;rfl,C,hc,λ_=>⟨b,0,rfl,?_⟩⟩;simp only[ay,J];rw[if_pos (by simp[A]),drop_zero,<- A,take_left'];rfl
def wF.app{e:TypeId}{x:Nat}{μ:Mem}{p:PV}{i:Lq}{F:List Nat}(h:wF e x μ p i F)(hr:∀r∈i,r.length=x):∃a c,p=.raw (.slice a i.length c)/\
  ∀(r:List PV) (j:Nat) (K:Option Addr->Nat->Nat->Mem->Prop),r.length=x->aV r=true->(i.length+1)*j<=140737488355328->i.length+1<4611686018427387904->
   (∀I A y C,C I=some (.cells e ((i++[r]).flatten++y))->(i.length+1)*x+y.length=A*x->i.length+1<=A->Mv μ C F [I]->K (some ⟨I,0,none⟩) (i.length+1) A C)->
   eB x j e a i.length c (.list x .nr [r]) μ K:=by
 have ZC:∀r:List PV,qJ x x [r]=true:=λr=>by simp[qJ,beq_refl]
 have O:i.flatten.length=i.length*x:=eo hr;rcases h with⟨rfl,rfl,rfl⟩|⟨L,c,y,rfl,rfl,h2,h3,h4⟩
 .refine⟨none,0,rfl,λr j K hl U hb Q hK=>?_⟩;unfold eB FV;simp only[ZC,cond_true];refine⟨by simpa using hb,by simpa using Q,le_refl _,.inr ⟨by simp,by simpa using U,λh=>by simp at h,λ_=>⟨[],.inl ⟨rfl,rfl⟩,λI A Y J=>?_⟩⟩⟩;refine hK I A (replicate ((A-(0+1))*x) .aU) _ ?_ ?_ (by simpa using J) ((Mv.set (.inr Y)).sub (by simp))
  .rw[Mem.ao];simp
  .simp only[length_nil,length_replicate];rw[<- add_mul];congr 1;simp at J;omega
 .refine⟨_,c,rfl,λr j K hl U hb Q hK=>?_⟩;unfold eB FV;simp only[ZC,cond_true];have dF:ay μ L 0 (i.length*x)=some i.flatten:=by
   simp only[ay,h2];rw[if_pos (by simp[O]),drop_zero,<- O,take_left'];rfl
  refine⟨by simpa using hb,by simpa using Q,h4,.inr ⟨by simp,by simpa using U,λG=>⟨L,0,e,_,rfl,h2,by simp[O,h3],?_⟩,λbK=>⟨_,.inr ⟨L,0,rfl,dF⟩,λI A Y J=>?_⟩⟩⟩
  .simp only[length_singleton]at G |-;have Wx:(i.length+1)*x<=c*x:=mul_le_mul_right _ G;have fK:x<=y.length:=by rw[succ_mul]at Wx;omega
   refine hK L c (y.drop x) _ ?_ ?_ G ((Mv.set (.inl (by simp))).sub (by simp))
   .rw[Mem.ao];congr 2;unfold du;rw[zero_add,<- O,take_left' rfl,flatten_cons,flatten_nil,append_nil,List.drop_length_add_append,hl,flatten_append];simp
   .rw[length_drop,succ_mul];omega
  .simp only[length_singleton]at J |-;refine hK I A (replicate ((A-(i.length+1))*x) .aU) _ ?_ ?_ J ((Mv.set (F:=[L]) (.inr Y)).sub (by simp))
   .rw[Mem.ao];simp
   .rw[length_replicate,<- add_mul];congr 1;omega
def Mem.Bb{μ:Mem}{b:Nat}{o:Option Ob}(h:μ b=o):μ.set b o=μ:=by
 funext x;by_cases e:x=b
 .subst e;rw[Mem.ao,h]
 .rw[Mem.ax _ _ e]
def JD{size j:Nat}{e:TypeId}{b c:Nat}{i:Lq}{fl:Fl}{μ:Mem}{cs:List PV}{K:Option Addr->Nat->Nat->Mem->Prop}(x:μ b=some (.cells e cs))(O:cs.length=c*size)(y:i.length<=c)(J:∀r∈i,r.length=size)(I:aV i.flatten=true)
  (L:i.length*j<=140737488355328) (C:i.length<4611686018427387904) (hK:K (some ⟨b,0,none⟩) i.length c (μ.set b (some (.cells e (i.flatten++cs.drop (i.length*size)))))):eB size j e (some ⟨b,0,none⟩) 0 c (.list size fl i) μ K:=by
 have G:i.flatten.length=i.length*size:=eo J;unfold eB FV;simp only[qJ,beq_refl,cond_true];refine⟨by simpa using L,by simpa using C,zero_le _,?_⟩;by_cases A:i.length=0
 .have:i=[]:=eq_nil_of_length_eq_zero A;subst this;refine .inl ⟨rfl,λh=>absurd rfl h,?_⟩;simp only[flatten_nil,List.nil_append,length_nil,Nat.zero_mul,drop_zero]at hK;rw[Mem.Bb x]at hK;exact hK
 .refine .inr ⟨A,I,λ_=>⟨b,0,e,cs,rfl,x,by omega,?_⟩,λh=>by omega⟩;simp only[zero_add,Nat.zero_mul];have:du cs 0 i.flatten=i.flatten++cs.drop (i.length*size):=by
   unfold du;simp[G]
  rw[this];exact hK
def ak.down{i:Type}{e:(Int->i->Prop)->Int->i->Prop}{u:i}{n k:Nat}(A:k<=n)(O:n<9223372036854775808)(I:Nat->i->Prop)(G:I n u)
  (L:∀(j:Nat) (u:i) (next:Int->i->Prop),k<j->j<=n->I j u->(∀u',I (j-1) u'->next (IntKind.wrap .i64 ((j:Int)-1)) u')->e next (j:Int) u)
  (J:∀(u:i) (next:Int->i->Prop),I k u->e next (k:Int) u):ak e (n:Int) u:=by
 refine⟨λm s w=>∃j:Nat,s=(j:Int)/\k<=j/\j<=n/\m=j-k/\I j w,⟨n-k,n,rfl,A,le_refl _,rfl,G⟩,?_⟩;rintro m s w ⟨j,rfl,Q,C,rfl,x⟩;by_cases h:k<j
 .refine L j w _ h C x λu' y=>⟨j-1-k,by omega,j-1,?_,by omega,by omega,rfl,y⟩;rw[aD (by omega) (by omega)];omega
 .have:j=k:=by omega
  subst this;exact J w _ x
def aH{μ:Mem}{b o n:Nat}{T:TypeId}{cs:List PV}(h:μ b=some (.cells T cs))(e:o+n<=cs.length):ay μ b o n=some ((cs.drop o).take n):=by simp only[ay,h];rw[if_pos e]
def xO{μ:Mem}{b o n:Nat}{T:TypeId}{cs:List PV}(h:μ b=some (.ro T cs))(e:o+n<=cs.length):ay μ b o n=some ((cs.drop o).take n):=by simp only[ay,h];rw[if_pos e]
def Reads(P:Program)(w:World)(n:Nat)(t:TypeId)(cs:List Value):Prop:=∃(H:Type) (enc:TypeId×Value->H) (x:DataW H×List MemPlace),DataW.trod enc P w 0 (λ_=>true) true n t cs=some x
section
variable {P:Program} {w:World} {n:Nat} {t:TypeId} {cs:List Value}
def Reads.int{k:IntKind}(e:P.underlying t=some (.int k))(h:Reads P w n t cs):∃i,cs=[.int k i]/\(Lit.int k i).wf=true:=by
 obtain⟨H,enc,x,h⟩:=h;cases n with
 |zero=>simp[DataW.trod]at h
 |succ n=>
  unfold DataW.trod at h;simp only[e]at h;split at h<;>simp_all
def Reads.bool(e:P.underlying t=some .bool)(h:Reads P w n t cs):∃b,cs=[.bool b]:=by
 obtain⟨H,enc,x,h⟩:=h;cases n with
 |zero=>simp[DataW.trod]at h
 |succ n=>
  unfold DataW.trod at h;simp only[e]at h;split at h<;>simp_all
def Reads.string(e:P.underlying t=some .string)(h:Reads P w n t cs):∃s:ByteArray,cs=[.string s]/\s.size<=maxLen:=by
 obtain⟨H,enc,x,h⟩:=h;cases n with
 |zero=>simp[DataW.trod]at h
 |succ n=>
  unfold DataW.trod at h;simp only[e]at h;split at h<;>simp_all
def Reads.struct{j:Array Field}(C:P.underlying t=some (.struct j))(h:Reads P w n t cs):∃m,n=m+1/\cs.length=P.cellsOf t/\∀(i:Nat) (f:Field),j[i]?=some f->Reads P w m f.type ((cs.drop f.offset).take (P.cellsOf f.type)):=by
 obtain⟨H,enc,x,h⟩:=h;obtain⟨y,m,rfl,_,G,A,I⟩:=DataW.trod_struct C h;refine⟨m,rfl,G,λi f e=>?_⟩;have:=I i f e;have J:i<y.length:=by rw[A];exact(Array.getElem?_eq_some_iff.1 e).1
 rw[getElem?_eq_getElem J]at this;exact⟨H,enc,_,this⟩
def wu{a:Addr}{j:Nat}{cs:List Value}(h:w.cells? 0 a j=some cs)(hz:j≠0):a.spot=none/\rd w.heap a.block a.off j=some cs:=by
 obtain⟨_,O,hc⟩:=World.cells?_some h;have x:=hc 0 (by omega);have L:a.add 0=a:=by simp[Addr.add]
 rw[L,getElem?_eq_getElem (by omega)]at x;unfold World.cell? at x;split at x
 .rename_i c T f G;split at x
  .cases x
  .rename_i J;have C:a.spot=none:=by simpa using J
   refine⟨C,?_⟩;have I:∀i,i<j->c[a.off+i]?=cs[i]?:=by
    intro i y;have:=hc i y;have e:a.add i=⟨a.block,a.off+i,none⟩:=by
     unfold Addr.add;split
     .rename_i h;subst h;obtain⟨_,_,_⟩:=a;simp_all
     .rfl
    rw[e]at this;simpa[World.cell?,G]using this
   have A:a.off+j<=c.size:=by
    have:=I (j-1) (by omega);rw[getElem?_eq_getElem (by omega)]at this;have:=(Array.getElem?_eq_some_iff.1 this).1;omega
   rw[Bk G A];congr 1;refine List.ext_getElem? λi=>?_;by_cases y:i<j
   .rw[List.getElem?_take_of_lt y,getElem?_drop,<- I i y];simp
   .rw[List.getElem?_eq_none (by simp;omega),List.getElem?_eq_none (by omega)]
 .cases x
def OB{H:JN}{b o m k:Nat}{xs h:List Value}(x:rd H b o m=some xs)(j:rd H b (o+m) k=some h):rd H b o (m+k)=some (xs++h):=by
 obtain⟨c,T,f,i,G,rfl⟩:=vA x;obtain⟨A,I,y,e,C,rfl⟩:=vA j;rw[i]at e;simp only[Option.some.injEq,Obj.cells.injEq]at e;obtain⟨rfl,rfl,rfl⟩:=e;rw[Bk i (by omega)];congr 1;rw[List.take_add,List.drop_drop]
def MN{H:JN}{b o e:Nat}(f:Nat->List Value):∀m,m≠0->(∀i,i<m->rd H b (o+i*e) e=some (f i))->rd H b o (m*e)=some ((range m).map f).flatten
 |0,h,_=>absurd rfl h
 |1,_,h=>by have:=h 0 (by omega);simpa using this
 |m+2,_,h=>by
  have j:=MN f (m+1) (by omega) (λi x=>h i (by omega));have:=OB j (h (m+1) (by omega));rw[List.range_succ,List.map_append,flatten_append,show(m+2)*e=(m+1)*e+e by rw[succ_mul]];simpa using this
def Reads.slice{e:TypeId}(ht:P.underlying t=some (.slice e))(hz:P.cellsOf e≠0)(h:Reads P w n t cs):∃m a len cap zz,n=m+1/\cs=[.slice a len cap]/\len<=maxLen/\SlR w.heap a len cap (P.cellsOf e) zz/\(∀x∈zz,Reads P w m e x)/\(cap=0\/gq a):=by
 obtain⟨H,enc,x,h⟩:=h;have U:∃m,n=m+1:=by
  cases n with
  |zero=>simp[DataW.trod]at h
  |succ n=>exact⟨n,rfl⟩
 obtain⟨m0,rfl⟩:=U;rcases DataW.trod_slice ht h with⟨rfl,_⟩|⟨a,len,cap,Y,rest,m,zh,rfl,rfl,hb,hl,hm,hlen,Np,Gg,hns⟩
 .exact⟨m0,none,0,0,[],rfl,rfl,zero_le _,SlR.nil _ _,by simp,.inl rfl⟩
 .have zh:m0=m:=by omega
  subst zh;have C:∀i,i<len->∃L,(w.cells? 0 (a.add (i*P.cellsOf e)) (P.cellsOf e))=some L/\Reads P w m0 e L:=by
   intro i j;have G:=Np i j;rw[getElem?_eq_getElem (by omega)]at G;obtain⟨L,Q,h3⟩:=Option.bind_eq_some_iff.1 G;exact⟨L,Q,H,enc,_,h3⟩
  have aiE:∃f:Nat->List Value,∀i,i<len->w.cells? 0 (a.add (i*P.cellsOf e)) (P.cellsOf e)=some (f i)/\Reads P w m0 e (f i):=by
   classical
   refine⟨λi=>if j:i<len then Classical.choose (C i j)else[],λi j=>?_⟩;simp only[dif_pos j];exact Classical.choose_spec (C i j)
  obtain⟨f,A⟩:=aiE;refine⟨m0,some a,len,cap,(range len).map f,rfl,rfl,le_trans hl hm,⟨by simp,hl,?_,λU=>?_⟩,?_,?_⟩
  .intro x y;obtain⟨i,j,rfl⟩:=mem_map.1 y;exact(World.cells?_some (A i (List.mem_range.1 j)).1).2.1
  .have I:=wu (A 0 (by omega)).1 hz;have J:a.add (0*P.cellsOf e)=a:=by simp[Addr.add]
   rw[J]at I;obtain⟨O,_⟩:=I;obtain⟨b,o,s⟩:=a;simp only at O;subst O;refine⟨b,o,rfl,MN f len U λi j=>?_⟩;have:=(wu (A i j).1 hz).2;have e:(⟨b,o,none⟩:Addr).add (i*P.cellsOf e)=⟨b,o+i*P.cellsOf e,none⟩:=by
    unfold Addr.add;split
    .rename_i h;simp[h]
    .rfl
   rw[e]at this;exact this
  .intro x y;obtain⟨i,j,rfl⟩:=mem_map.1 y;exact(A i (List.mem_range.1 j)).2
  .by_cases IY:cap=0
   .exact .inl IY
   .right;have O:a.spot=none:=by
     by_cases UL:len=0
     .have G:=(Gg rfl).2 0 (by omega);have akN:=(Gg rfl).1;rw[getElem?_eq_getElem (by omega)]at G;obtain⟨L,Q,_⟩:=Option.bind_eq_some_iff.1 G;have J:a.add ((len+0)*P.cellsOf e)=a:=by simp[Addr.add,UL]
      rw[J]at Q;exact(wu Q hz).1
     .have I:=wu (A 0 (by omega)).1 hz;have J:a.add (0*P.cellsOf e)=a:=by simp[Addr.add]
      rw[J]at I;exact I.1
    intro x y;cases y;exact O
def Ij{T:Type}{Z:Fz}{pv:T->List PV}{Q:T->Prop}:∀{zz:List (List Value)},(∀x∈zz,∃s,bx Z (pv s) x/\Q s)->∃l:List T,l.length=zz.length/\bx Z (l.map pv).flatten zz.flatten/\(∀s∈l,Q s)/\∀(i:Nat) s x,l[i]?=some s->zz[i]?=some x->bx Z (pv s) x
 |[],_=>⟨[],rfl,bx.nil Z,by simp,by simp⟩
 |x::zz,h=>by
  obtain⟨s,e,I⟩:=h x (by simp)
  obtain⟨l,L,A,J,O⟩:=Ij (zz:=zz) λy G=>h y (by simp[G]);refine⟨s::l,by simp[L],by simpa using e.append A,by simpa using⟨I,J⟩,λi C j a b=>?_⟩;cases i with
  |zero=>simp only[List.getElem?_cons_zero,Option.some.injEq]at a b;subst a;subst b;exact e
  |succ i=>simp only[List.getElem?_cons_succ]at a b;exact O i C j a b
def Reads.ze{T:Type}{pv:T->List PV}{Q:T->Prop}{e:TypeId}{sz:Nat}(ht:P.underlying t=some (.slice e))(hc:P.cellsOf e=sz)(hz:sz≠0)(he:∀m cs,m<n->Reads P w m e cs->∃s,bx (jN w) (pv s) cs/\Q s)(h:Reads P w n t cs):
  ∃l:List T,bx (jN w) [.list sz .sh (l.map pv)] cs/\(∀s∈l,Q s)/\l.length<=maxLen:=by
 obtain⟨m,a,len,cap,G,rfl,rfl,h0,y,h3,Gg⟩:=h.slice ht (by rw[hc];exact hz);rw[hc]at y;obtain⟨l,U,sS,hq,Y⟩:=Ij λx hx=>he m x (by omega) (h3 x hx);have L:l.length=len:=by rw[U,y.len]
 refine⟨l,bx.cons rfl ?_ (bx.nil _),hq,by omega⟩;have eh:∀r∈l.map pv,r.length=sz:=by
  intro r I;obtain⟨s,hs,rfl⟩:=mem_map.1 I;obtain⟨i,Lt⟩:=List.mem_iff_getElem?.1 hs;have bK:i<G.length:=by rw[<- U];exact(List.getElem?_eq_some_iff.1 Lt).1
  have:=Y i s G[i] Lt (getElem?_eq_getElem bK);rw[<- this.1];exact y.each _ (List.getElem_mem bK)
 by_cases J:len=0
 .have:l=[]:=eq_nil_of_length_eq_zero (by omega);subst this;exact .list sz .sh _ a len cap 0 0 [] (λ_ _=>undef) (by simp[J]) y.cap Gg (by simp) (λh=>absurd J h) (λi j Y=>by omega) (by simp) (by simp) trivial
 .obtain⟨b,o,rfl,I⟩:=y.read J;obtain⟨A,T',f',hA,hle,O⟩:=vA I;have lj:G.flatten.length=len*sz:=by rw[Ji y.each,y.len]
  have:=qC (Z:=jN w) (sz:=sz) (fl:=.sh) (rows:=l.map pv) (vs:=G.flatten) (b:=b) (o:=o) (c:=cap) (C:=A.toList) eh sS (Xx hA) (λk hk=>by
   rw[O]at hk |-
   rw[getElem?_take,if_pos (by rw[O]at lj;omega),getElem?_drop]) (by simp[L,y.cap]) trivial
  rw[List.length_map,L]at this;exact this
def Reads.FM{k:IntKind}(j:P.underlying t=some (.int k))(h:Reads P w n t cs):∃i,bx (jN w) [.raw (.int k i)] cs/\(Lit.int k i).wf=true:=by
 obtain⟨i,rfl,e⟩:=h.int j;exact⟨i,bx.cons rfl (.raw _ rfl rfl) (bx.nil _),e⟩
def Reads.pbool(e:P.underlying t=some .bool)(h:Reads P w n t cs):∃i,bx (jN w) [pB i] cs:=by
 obtain⟨i,rfl⟩:=h.bool e;exact⟨i,bx.cons rfl (.raw _ rfl rfl) (bx.nil _)⟩
def Reads.OF(j:P.underlying t=some .string)(h:Reads P w n t cs):∃i:ByteArray,bx (jN w) [pS i] cs/\i.size<=maxLen:=by
 obtain⟨i,rfl,e⟩:=h.string j;exact⟨i,bx.cons rfl (.raw _ rfl rfl) (bx.nil _),e⟩
def fW{m:Nat}{j:Array Field}(y:∀(i:Nat) (f:Field),j[i]?=some f->Reads P w m f.type ((cs.drop f.offset).take (P.cellsOf f.type)))(i e:Nat){h k:Nat}(A:P.cellsOf h=k){f:Field}(x:j[i]?=some f)(G:f.type=h)(C:f.offset=e):Reads P w m h ((cs.drop e).take k):=by
 subst G C A;exact y i f x
section
variable {H:Type} {enc:TypeId×Value->H} {r:Reach} {base:Nat} {v:Value} {d:DataW H} {p:List MemPlace}
def Reads.of(h:DataW.Trod enc P w 0 (λ_=>true) true t v d p):∃n,Reads P w n t v.cells.toList:=let ⟨n,e⟩:=h;⟨n,H,enc,_,e⟩
def MU{k:IntKind}(x:P.underlying t=some (.int k))(A:Value.okWide P w r base t v)(h:DataW.Trod enc P w 0 (λ_=>true) true t v d p):∃i,bW (jN w) (.raw (.int k i)) v/\(Lit.int k i).wf=true:=by
 obtain⟨i,rfl⟩:=WideShapes.okWide_int x A;obtain⟨n,C⟩:=Reads.of h;obtain⟨j,e,y⟩:=C.int x;simp[Value.cells]at e;subst e;exact⟨_,.raw _ rfl rfl,y⟩
def Rz{T:Type}{pv:T->List PV}{Q:T->Prop}{e:TypeId}{i:Nat}(x:P.underlying t=some (.slice e))(hc:P.cellsOf e=i)(hz:i≠0)(C:∀m cs,Reads P w m e cs->∃s,bx (jN w) (pv s) cs/\Q s)(y:Value.okWide P w r base t v)(h:DataW.Trod enc P w 0 (λ_=>true) true t v d p):
  ∃l:List T,bW (jN w) (.list i .sh (l.map pv)) v/\(∀s∈l,Q s)/\l.length<=maxLen:=by
 obtain⟨a,len,cap,rfl⟩:=WideShapes.okWide_slice x y;obtain⟨n,A⟩:=Reads.of h;obtain⟨l,J,I,G⟩:=A.ze x hc hz (λm cs _ j=>C m cs j);obtain⟨v,L,e,_,j,_⟩:=J.inv;simp only[Value.cells,List.cons.injEq]at e;refine⟨l,?_,I,G⟩;rw[e.1];exact j
end
end
end Go.aP
