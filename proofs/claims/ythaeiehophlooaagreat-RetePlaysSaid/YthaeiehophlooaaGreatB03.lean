import Derived.Test.YthaeiehophlooaaGreatB02
import Derived.LaidEqlPtr
open Array (getD_eq_getD_getElem? getElem?_eq_none replicate toList_inj)
open Bool (and_eq_true cond_eq_ite false_eq_true not_eq_true' or_eq_false_iff)
open Go.Result (andThen_ok)
open Go.Sem (run_bind run_pure)
open List (all_eq_true getElem?_eq_getElem length_cons map_cons mem_append mem_append_left mem_cons mem_filter mem_filterMap mem_map mem_of_getElem? mem_singleton nodup_cons range')
open Nat (beq ble ble_eq blt le_refl le_trans lt_of_lt_of_le lt_or_ge not_lt)
set_option linter.all false
namespace Go.aP
open Go.RowKit
def QW(C:Ctx)(fz j:List Nat)(st:St)(Q:Exit->St->UW->Prop)(e:Exit)(r:Act)(w:World):Prop:=
 ∃h i g,Inv C r w h i g/\cN C.n fz j st h/\Q e h i
def getD_some{a:Array Value}{g n:Nat}(e:a.size=n)(h:g<n):a[g]?=some (a.getD g undef):=by
 rw[getD_eq_getD_getElem?,Array.getElem?_eq_getElem (by omega)];rfl
def vi{σ:Fr}{t:Nat}{v:Value}(h:σ t=v):jd σ t v=σ:=by
 funext i;by_cases e:i=t
 .subst e;rw[fj,h]
 .rw[cw _ _ e]
section
variable {P:Program} {ops:Array Oper} {Q:Exit->Act->World->Prop} {S:World->Prop}
def kN(P:Program)(ops:Array Oper)(Q:Exit->Act->World->Prop)(i:Nat)(K:Act->World->Prop)(a:Act)(w:World):Prop:=
 match ops[i]? with
 |none=>K a w
 |some o=>if Region.wanted o (yielded ops a.tmps)then o.uponIn Fence.wide 0 P a K Q ((execOp a.eval o).run P w)else K (a.put o.dst undef) w
def nK{o:Oper}{a:Act}{K A:Act->World->Prop}{r:Result Next}(h:∀a w,K a w->A a w)(g:o.uponIn Fence.wide 0 P a K Q r):o.uponIn Fence.wide 0 P a A Q r:=by
 cases r with
 |halt x w=>cases x<;>exact g
 |ok x w=>
  cases x<;>simp only[Oper.uponIn]at g |-
  case value v=>exact h _ _ g
  case skip=>exact h _ _ g
  case defer d=>exact h _ _ g
  case enter f args=>exact⟨g.1,g.2.mono λe j i=>by cases e<;>first|exact h _ _ i|exact i⟩
  case row r args=>exact⟨g.1,g.2.mono λv j i=>h _ _ i⟩
  case round l f t x y=>exact⟨g.1,g.2.mono λe j i=>by cases e<;>first|exact h _ _ i|exact i⟩
def tg{i:Nat}{a:Act}{w:World}{K j:Act->World->Prop}(h:∀a w,K a w->j a w)(e:kN P ops Q i K a w):kN P ops Q i j a w:=by
 unfold kN at*
 cases g:ops[i]? with
 |none=>simp only[g]at e |-;exact h _ _ e
 |some o=>
  simp only[g]at e |-;split<;>rename_i r<;>simp only[r,if_true,if_false,false_eq_true]at e
  .exact nK h e
  .exact h _ _ e
def Mq{i:Nat}{o:Oper}{v:Value}{a:Act}{K:Act->World->Prop}{w:World}(r:ops[i]?=some o)(g:YieldsIf P ops S o v a)(x:S w)(h:K (a.put o.dst v) w):kN P ops Q i K a w:=by
 unfold kN;simp only[r];rcases g with⟨e,j⟩|⟨e,rfl⟩
 .rw[if_pos e,j w x];exact h
 .rw[if_neg (by simp[e])];exact h
def DJ{j:Nat}{i A:Oper}{v:Value}{K:Act->World->Prop}{a:Act}{w:World}(hj:ops[j]?=some A)(SY:i.apart ops A=true)
  (J:∀cs b,i.op≠ .select cs b) (I:∀cs b,A.op≠ .select cs b) (L:∀c a w,Q (.panic c) (a.put i.dst v) w->Q (.panic c) a w)
  (O:YieldsIf P ops S i v a) (h:kN P ops Q j K (a.put i.dst v) w):kN P ops Q j (λa' w'=>YieldsIf P ops S i v a'/\K (a'.put i.dst v) w') a w:=by
 obtain⟨h1,h2,Y⟩:=Oper.apart_spec SY;have st:∀(b:Act) (x:Value),YieldsIf P ops S i v b->YieldsIf P ops S i v (b.put A.dst x):=λb x hb=>hb.of_same (execOp_put i J b A.dst x Y) (wanted_put i b A.dst x Y);have g:∀(x:Value) (w':World),K ((a.put i.dst v).put A.dst x) w'->YieldsIf P ops S i v (a.put A.dst x)/\K ((a.put A.dst x).put i.dst v) w':=
  λx w' hk=>⟨st a x O,by rw[<- Act.put_comm a v x h2];exact hk⟩
 unfold kN at h |-;simp only[hj,wanted_put A a i.dst v h1,execOp_put A I a i.dst v h1]at h |-;split<;>rename_i hw<;>simp only[hw,if_true,if_false,false_eq_true]at h
 .cases U:(execOp a.eval A).run P w with
  |halt x w'=>
   rw[U]at h;cases x<;>simp only[Oper.uponIn]at h |-;exact L _ _ _ h
  |ok x w'=>
   rw[U]at h;cases x<;>simp only[Oper.uponIn]at h |-
   case value x=>exact g x w' h
   case skip=>exact g undef w' h
   case defer d=>
    refine⟨st _ _ (O.of_same rfl rfl),?_⟩;rw[<- Act.put_comm _ v undef h2,<- Act.put_defers];exact h
   case enter f args=>
    exact⟨h.1,h.2.mono λe H G=>by cases e<;>first|exact g _ _ G|exact L _ _ _ G|exact G⟩
   case row r args=>exact⟨h.1,h.2.mono λx H G=>g x H G⟩
   case round l f t x y=>
    exact⟨h.1,h.2.mono λe H G=>by cases e<;>first|exact g _ _ G|exact L _ _ _ G|exact G⟩
 .exact g undef w h
def Fw(ro:Option (Nat×Loop)):Fence:={Fence.wide with round:=ro.map (·.1)}
def Kv(ro:Option (Nat×Loop)){o:Oper}{a:Act}{K:Act->World->Prop}{r:Result Next}(h:o.uponIn Fence.wide 0 P a K Q r):o.uponIn (Fw ro) 0 P a K Q r:=by
 cases r with
 |halt x w=>cases x<;>exact h
 |ok x w=>cases x<;>exact h
def vg(ro:Option (Nat×Loop)){o:Oper}{a:Act}{w:World}{K:Act->World->Prop}(e:∀c,o.op≠ .defer c)(h:o.uponIn Fence.wide 0 P a K Q ((execOp a.eval o).run P w)):o.wpIn (Fw ro) 0 P a w K Q:=
 ⟨λ_ _=>trivial,by rw[Oper.semAt_eq _ _ _ e];exact Kv ro h⟩
def HC(ro:Option (Nat×Loop)){i:Nat}{a:Act}{w:World}{K:Act->World->Prop}(r:∀(j:Nat) (o:Oper) c,ops[j]?=some o->o.op≠ .defer c)(h:kN P ops Q i K a w):wpOpIn (Fw ro) 0 P ops Q i K a w:=by
 unfold kN at h;unfold wpOpIn;cases e:ops[i]? with
 |none=>simp only[e]at h |-;exact h
 |some o=>
  simp only[e]at h |-;split<;>rename_i g<;>simp only[g,if_true,if_false,false_eq_true]at h
  .exact vg ro (λc=>r i o c e) h
  .exact⟨λ_ _=>trivial,h⟩
def xB(P:Program)(ops:Array Oper)(Q:Exit->Act->World->Prop)(S:World->Prop):Nat->Array Bool->Act->World->Prop
 |0,e,a,w=>Region.ready .any ops e=[]/\Q .normal a w
 |fuel+1,e,a,w=>
  (Region.ready .any ops e=[]->Q .normal a w)/\
  ∀i∈Region.ready .any ops e,kN P ops Q i (λh g=>(late ops i=true->S w->S g)/\xB P ops Q S fuel (e.setIfInBounds i true) h g) a w
def th(ro:Option (Nat×Loop))(g:∀(j:Nat) (o:Oper) c,ops[j]?=some o->o.op≠ .defer c):∀(e:Nat) (r:Array Bool) (a:Act) (w:World),xB P ops Q S e r a w->wpAnyIn (Fw ro) 0 P .any ops Q e r a w
 |0,_,_,_,h=>h
 |e+1,_,_,_,h=>⟨h.1,λi y=>wpOpIn_mono (λG x A=>th ro g e _ G x A.2) (HC ro g (h.2 i y))⟩
def Cl(ops:Array Oper)(h:Array Bool):Prop:=∀y g,ops[y]?=some g->h.getD y false=true->∀e∈g.after,Region.binds .any e=true->h.getD e.on false=true
def Cl.none(ops:Array Oper)(n:Nat):Cl ops (replicate n false):=by
 intro y e _ h;rw[getD_eq_getD_getElem?,Array.getElem?_replicate]at h;split at h<;>simp at h
def Cl.set{g:Array Bool}{i:Nat}(h:Cl ops g)(U:i∈Region.ready .any ops g):Cl ops (g.setIfInBounds i true):=by
 have mono:∀x,g.getD x false=true->(g.setIfInBounds i true).getD x false=true:=by
  intro x A;by_cases r:i=x
  .subst r;have:i<g.size:=by
    rcases lt_or_ge i g.size with G|G
    .exact G
    .rw[getD_eq_getD_getElem?,getElem?_eq_none G]at A;cases A
   simp[getD_eq_getD_getElem?,this]
  .rw[getD_set_ne false r];exact A
 intro y L w H e I J;by_cases j:i=y
 .subst j;obtain⟨_,oj,Y,O⟩:=mem_ready.1 U;rw[Y]at w;cases w;exact mono _ (O e I J)
 .rw[getD_set_ne false j]at H;exact mono _ (h y L w H e I J)
theorem Cl.sO{af:Array Bool}{j:Nat}(h:Cl ops af)(hl:af.getD j false=true):∀x∈sO ops j,af.getD x false=true:=by
 intro x hx;unfold aP.sO at hx;split at hx
 .cases hx
 .rename_i o ho;obtain⟨e,he,rfl⟩:=mem_map.1 hx;rw[mem_filter]at he;exact h j o ho hl e (by simpa using he.1) he.2
theorem Cl.yV{af:Array Bool}(h:Cl ops af):∀(n:Nat) (S:List Nat),(∀x∈S,af.getD x false=true)->∀x∈yV ops n S,af.getD x false=true
 |0,_,hS=>hS
 |n+1,S,hS=>by
  simp only[aP.yV]
  refine Cl.yV h n _ ?_
  cases hm:cT S n with
  |false=>exact hS
  |true=>
   intro x hx
   simp only[cond_true,mem_append]at hx
   exact hx.elim (h.sO (hS n (eg.1 hm)) x) (hS x)
def V_{i j:Nat}{J:Oper}{r:Array Bool}(Y:Cl ops r)(L:ops[i]?=some J)(y:reads J=true)(G:i∈Region.ready .any ops r)(A:j∈Region.ready .any ops r)(aW:j≠i):late ops j=true:=by
 unfold late Sb;rw[List.any_eq_true];refine⟨i,List.mem_range.2 (Array.getElem?_eq_some_iff.1 L).1,?_⟩;simp only[Bj,L,y,Bool.and_true,and_eq_true,not_eq_true'];refine⟨?_,?_⟩
 .cases h:beq i j with
  |false=>rfl
  |true=>exact absurd (beq_iff.1 h).symm aW
 .cases hp:cT (Ut ops j) i with
  |false=>rfl
  |true=>
   exfalso;obtain⟨_,oj,gZ,U⟩:=mem_ready.1 A;have O:=(mem_ready.1 G).1;have g:r.getD i false=true:=by
    refine Y.yV ops.size (sO ops j) (λx w=>?_) i (eg.1 hp);unfold sO at w;simp only[gZ]at w;obtain⟨e,H,rfl⟩:=mem_map.1 w;rw[mem_filter]at H;exact U e (by simpa using H.1) H.2
   rcases lt_or_ge i r.size with I|I
   .simp[I]at O g;rw[O]at g;cases g
   .rw[getD_eq_getD_getElem?,getElem?_eq_none I]at g;cases g
def vh{i:Nat}{y:Oper}{v:Value}(Y:ops[i]?=some y)(vU:∀(j:Nat) (o:Oper) cs b,ops[j]?=some o->o.op≠ .select cs b)
  (hQ:∀c a w,Q (.panic c) (a.put y.dst v) w->Q (.panic c) a w):
  ∀(r:Nat) (x:Array Bool) (a:Act) (w:World),
   (∀j G,ops[j]?=some G->j≠i->x.getD j true=false->(∀e∈G.after,Region.binds .any e=true->e.on≠i)->y.apart ops G=true)->
   Cl ops x->i∈Region.ready .any ops x->YieldsIf P ops (λw=>reads y=true->S w) y v a->(reads y=true->S w)->
   xB P ops Q S r (x.setIfInBounds i true) (a.put y.dst v) w->xB P ops Q S (r+1) x a w:=by
 intro r;induction r with
 |zero=>
  intro x a w _ _ A U hS H;refine⟨λh=>(by rw[h]at A;cases A),λj J=>?_⟩;by_cases g:j=i
  .subst g;exact Mq Y U hS ⟨λ_ h=>h,H⟩
  .have:=ready_mono J g;rw[H.1]at this;cases this
 |succ r ih=>
  intro x a w kj ij A U hS H;refine⟨λh=>(by rw[h]at A;cases A),λj J=>?_⟩;by_cases g:j=i
  .subst g;exact Mq Y U hS ⟨λ_ h=>h,H⟩
  .have I:=H.2 j (ready_mono J g);obtain⟨SJ,G,gZ,jK⟩:=mem_ready.1 J;have IM:∀e∈G.after,Region.binds .any e=true->e.on≠i:=λe he hb heq=>by
    have I:=jK e he hb;have h0:=(mem_ready.1 A).1;rw[heq]at I;rcases lt_or_ge i x.size with h'|h'
    .simp[h']at h0 I;rw[h0]at I;cases I
    .simp[getElem?_eq_none h']at I
   have h2:=DJ gZ (kj j G gZ g SJ IM) (λcs b=>vU i y cs b Y) (λcs b=>vU j G cs b gZ) hQ U I;have Gm:∀k ok,ops[k]?=some ok->k≠i->(x.setIfInBounds j true).getD k true=false->
     (∀e∈ok.after,Region.binds .any e=true->e.on≠i)->y.apart ops ok=true:=λk ok hk hki L cM=>by
    refine kj k ok hk hki ?_ cM;by_cases O:j=k
    .subst O;exact SJ
    .rw[getD_set_ne true O]at L;exact L
   refine tg (λa' w' h3=>⟨h3.2.1,ih (x.setIfInBounds j true) a' w' Gm (ij.set J) (ready_mono A (Ne.symm g)) h3.1 (λdF=>h3.2.1 (V_ ij Y dF A J g) (hS dF)) ?_⟩) h2;rw[Array.setIfInBounds_comm _ _ g];exact h3.2.2
end
section
variable {E:Env} {C:Ctx} {a:Act} {wa:World} {st:St} {u u0:UW} {θ:Nat->Nat} {fz:List Nat} {o:Oper} {K:St->UW->Prop}
structure kT(u0:UW)(st:St)(θ:Nat->Nat)(w:World):Prop where
 De:yG u0.toWorld w
 boxes:∀k m,(k,m)∈st.D->∃c T,w.heap[θ k]?=some (.cells c T (0,0))/\c.size=m/\∀j,j<m->R θ (st.σ (gx k j)) (c.getD j undef)
def Tk(E:Env)(a:Act)(o:Oper)(st:St)(u0:UW)(θ:Nat->Nat)(K:St->UW->Prop):Prop:=
 ∃v r,R θ v r/\(∀k o,v=dU k o->∃m,(k,m)∈st.D)/\K (fin o st v) u0/\∀w,(reads o=true->kT u0 st θ w)->(execOp a.eval o).run E.P w=.ok (.value r) w
def zH{v:Value}(hp:plain v=true)(hK:K (fin o st v) u0)(g:∀w,(reads o=true->kT u0 st θ w)->(execOp a.eval o).run E.P w=.ok (.value v) w):Tk E a o st u0 θ K:=
 ⟨v,v,po hp,λk o e=>absurd e (kg hp k o),hK,g⟩
def Fh{k g:Nat}(i:∃m,(k,m)∈st.D)(hK:K (fin o st (dU k g)) u0)(h:∀w,(reads o=true->kT u0 st θ w)->(execOp a.eval o).run E.P w=.ok (.value (.pointer (some ⟨θ k,g,none⟩))) w):Tk E a o st u0 θ K:=
 ⟨dU k g,_,rfl,λr j e=>(by simp only[Value.complex.injEq,true_and]at e;rw[<- e.1];exact i),hK,h⟩
def Vg{t:TypeId}{x:Operand}{A g mx:Option Operand}
  (h:match E.P.underlying t,ev st.σ x with
   |some (.slice e),.slice b len cap=>(match dH (ev st.σ) A 0,dH (ev st.σ) g len,dH (ev st.σ) mx cap with
    |some l,some h,some m=>(bif (mx.isSome&&g.isNone)||(E.P.info? e).isNone then False else(m.toNat=l.toNat\/gq b)/\0<=l/\l<=h/\h<=m/\m<=cap/\K (fin o st (.slice (zI b l.toNat m.toNat (E.P.cellsOf e)) (h.toNat-l.toNat) (m.toNat-l.toNat))) u0)
    |_,_,_=>False)
   |some .string,.string s=>(match mx with
    |some _=>False
    |none=>match dH (ev st.σ) A 0,dH (ev st.σ) g s.size with
     |some l,some h=>0<=l/\l<=h/\h<=s.size/\K (fin o st (.string (s.extract l.toNat h.toNat))) u0
     |_,_=>False)
   |_,_=>False) (G:o.op=.slice t x A g mx) (aJ:bC C.n o=true) (U:Inv C a wa st u θ):Tk E a o st u0 θ K:=by
 have hx:df C.n x=true:=lE aJ (by simp[G,Op.operands]);have ll:∀y k i,(A=some y\/g=some y\/mx=some y)->ev st.σ y=.int k i->a.eval y=.int k i:=by
  intro y k i H j;refine bg U (lE aJ ?_) j rfl;rcases H with rfl|rfl|rfl<;>simp[G,Op.operands]
 split at h
 .rename_i e b len cap I j;split at h
  .rename_i l h' m L O hm;cases r:(mx.isSome&&g.isNone)||(E.P.info? e).isNone with
   |true=>simp only[r,cond_true]at h
   |false=>
    simp only[r,cond_false]at h;simp only[or_eq_false_iff]at r;obtain⟨SW,Ds⟩:=r;obtain⟨i,tX⟩:∃i,E.P.info? e=some i:=by cases hq:E.P.info? e<;>simp_all
    obtain⟨J,h0,h1,Y,h3,hK⟩:=h;refine zH rfl hK λw _=>?_;simp only[execOp,G,bg U hx j rfl,run_bind,Instr.sliceAt,aT I,andThen_ok,Instr.slice,oL ll L O hm SW h0 h1 Y h3,cK tX,run_pure];congr 3;unfold zI;split
    .rfl
    .rename_i n_;cases b with
     |none=>rfl
     |some b=>
      simp only[Option.map_some,Option.some.injEq];unfold Addr.add;split
      .rename_i YF;obtain⟨bb,bo,bs⟩:=b;have:=(J.resolve_left n_) _ rfl;simp only at this;subst this;simp[YF]
      .rfl
  .exact h.elim
 .rename_i s I j;cases mx with
  |some _=>exact h.elim
  |none=>
   simp only at h;split at h
   .rename_i l h' L O;obtain⟨h0,h1,Y,hK⟩:=h;refine zH rfl hK λw _=>?_;have hb:=oL (P:=E.P) (w:=w) (isS:=false) (len:=s.size) (cap:=s.size) (mx:=none) (m:=s.size) (λy k i H=>ll y k i (by rcases H with h|h|h;exact .inl h;exact .inr (.inl h);cases h)) L O rfl (by simp) h0 h1 Y (by omega);simp only[execOp,G,bg U hx j rfl,run_bind,Instr.sliceAt,aT I,andThen_ok,Instr.slice];simp only[Option.map_none]at hb;simp only[Option.map_none,Option.isSome_none,false_eq_true,if_false,run_bind,hb,andThen_ok,run_pure]
   .exact h.elim
 .exact h.elim
def acS{t:TypeId}{x:Operand}{f:Nat}
  (h:match ev st.σ x with
   | .agg cs=>(match Dt E.P t f cs.toList with
     |some v=>bif plain v then K (fin o st v) u0 else False
     |none=>False)
   |_=>False) (j:o.op=.field t x f) (U:bC C.n o=true) (L:Inv C a wa st u θ):Tk E a o st u0 θ K:=by
 have G:df C.n x=true:=lE U (by simp[j,Op.operands]);split at h
 .rename_i cs J;cases e:Dt E.P t f cs.toList with
  |none=>simp only[e]at h
  |some v=>
   simp only[e]at h;obtain⟨A,h⟩:=aq h;refine zH A h λw _=>?_;unfold Dt at e;cases hu:E.P.underlying t with
   |none=>simp[hu]at e
   |some D=>
    cases D<;>simp only[hu]at e<;>try (cases e;done)
    rename_i O;cases i:O[f]? with
    |none=>simp[i]at e
    |some y=>
     simp only[i,cond_eq_ite,and_eq_true,ble_eq]at e;split at e
     .rename_i hc;obtain⟨I,H⟩:=hc;obtain⟨d,r⟩:=Option.isSome_iff_exists.1 I;simp only[execOp,j,bg L G J rfl,Instr.field,run_bind,aT hu,andThen_ok,i,asAgg,run_pure];split at e
      .rename_i g;simp only[Option.some.injEq]at e;rw[gJ r g,<- e];simp only[andThen_ok];congr 3;apply toList_inj.1;rw[Array.toList_extract,List.extract_eq_take_drop];simp
      .rename_i g;simp only[Bool.not_eq_true]at g;rw[iM r g (v:=v) (by simpa using e)];rfl
     .cases e
 .exact h.elim
def ahj{b:Builtin}{g:Array Operand}{ts:Array TypeId}(O:bF o=true)(h:W1b E o st u0 b g.toList ts.toList K)(j:o.op=.call ⟨.builtin b,g,ts⟩)(U:bC C.n o=true)(H:Inv C a wa st u θ):Tk E a o st u0 θ K:=by
 have ka:∀x∈g.toList,df C.n x=true:=λx L=>lE U (by simp[j,Op.operands,Call.operands];simpa using L);obtain⟨g⟩:=g;obtain⟨ts⟩:=ts;simp only at h ka;unfold W1b at h;split at h
 .rename_i x t;have J:=ka x (by simp);split at h
  .rename_i n c G r;refine zH rfl h λw _=>?_;refine cR (s:=Builtin.len_ #[t] o.type #[a.eval x]) j (λ_=>by simp[builtin]) ?_;simp[Builtin.len_,aT G,bg H J r rfl,goInt]
  .rename_i s G r;refine zH rfl h λw _=>?_;refine cR (s:=Builtin.len_ #[t] o.type #[a.eval x]) j (λ_=>by simp[builtin]) ?_;simp[Builtin.len_,aT G,bg H J r rfl,goInt]
  .rename_i n e G;obtain⟨_,h⟩:=aq h;refine zH rfl h λw _=>?_;refine cR (s:=Builtin.len_ #[t] o.type #[a.eval x]) j (λ_=>by simp[builtin]) ?_;simp[Builtin.len_,aT G,goInt]
  .exact h.elim
 .rename_i x y t Y;simp[bF,j]at O
 .split at h
  .rename_i k i A I;refine zH rfl h λw _=>?_;obtain⟨r,_⟩:=vR H ka I;refine cR (s:=(A.map (Value.int k)).foldlM Builtin.min2 (.int k i)) j (λ_=>?_) (FC A i);simp only[builtin,Builtin.min_,List.map_toArray,r,map_cons]
  .exact h.elim
 .split at h
  .rename_i k i A I;refine zH rfl h λw _=>?_;obtain⟨r,_⟩:=vR H ka I;refine cR (s:=(A.map (Value.int k)).foldlM Builtin.max2 (.int k i)) j (λ_=>?_) (FD A i);simp only[builtin,Builtin.max_,List.map_toArray,r,map_cons]
  .exact h.elim
 .exact h.elim
def NV(ht:bF o=true)(aJ:bC C.n o=true)(G:Inv C a wa st u θ)(h:W1 E fz o st u0 K):Tk E a o st u0 θ K:=by
 have I:∀{x:Operand},x∈o.op.operands->df C.n x=true:=λA=>lE aJ A;cases g:o.op with
 |move x=>
  simp only[W1,g]at h;have A:=I (x:=x) (by simp[g,Op.operands]);exact⟨_,_,Gy G A,λk o' e=>(kQ G A e).2,h,λw _=>by simp[execOp,g]⟩
 |assign x=>
  simp only[W1,g]at h;have A:=I (x:=x) (by simp[g,Op.operands]);exact⟨_,_,Gy G A,λk o' e=>(kQ G A e).2,h,λw _=>by simp[execOp,g]⟩
 |pick c x y=>
  simp only[W1,g]at h;have A:=I (x:=x) (by simp[g,Op.operands]);have hy:=I (x:=y) (by simp[g,Op.operands]);have hc:=I (x:=c) (by simp[g,Op.operands]);split at h
  .rename_i t hct;have hec:=bg G hc hct rfl;cases t with
   |true=>exact⟨_,_,Gy G A,λk o' e=>(kQ G A e).2,h,λw _=>by simp[execOp,g,hec,asBool]⟩
   |false=>exact⟨_,_,Gy G hy,λk o' e=>(kQ G hy e).2,h,λw _=>by simp[execOp,g,hec,asBool]⟩
  .exact h.elim
 |build t ps=>
  simp only[W1,g]at h;obtain⟨hp,h⟩:=aq h;have A:∀x∈ps.toList,df C.n x.2=true:=λx A=>lE aJ (by simp only[g,Op.operands];simp only[List.mem_toArray,mem_map];exact⟨x,A,rfl⟩);cases hb:Xq E.P t (ps.toList.map λp=>(p.1,ev st.σ p.2))with
  |none=>simp only[hb]at h
  |some vs=>
   simp only[hb]at h;refine zH rfl h λw _=>?_;have e:=vE G A hp;simp only[execOp,g,e,run_bind];rw[run_build (r:=vs) (by simpa using hb)];rfl
 |load t x=>
  simp only[W1,g]at h;have A:=I (x:=x) (by simp[g,Op.operands]);cases hk:kinds E.P t with
  |none=>simp only[hk]at h
  |some ks=>
   simp only[hk]at h;obtain⟨zM,⟨d,hu⟩,xv⟩:=lY hk;split at h
   .rename_i k O H;cases hb:fh st.D k with
    |none=>simp only[hb]at h
    |some m=>
     simp only[hb]at h;obtain⟨hc,h⟩:=aq h;simp only[and_eq_true,ble_eq]at hc;obtain⟨Y,U⟩:=hc;have hp:=og U;have L:=(kQ G A H).1;refine zH (nV hp (xv.imp id λh=>by rw[tz];exact h)) h λw hw=>?_;obtain⟨c,T,b1,b2,b3⟩:=(hw (by simp[reads,g])).boxes k m (kp hb);have BS:=ik b2 b3 ks.length O Y hp;simp only[execOp,g,L,Instr.loadAt,Instr.sureAddr,run_bind,run_pure,andThen_ok];rw[ix hk b1 (by omega),BS];rfl
   .obtain⟨b,O,J,h⟩:=gG h;obtain⟨vs,hlen,hp,dF,h⟩:=re h;have L:=bg G A J rfl;by_cases hz:ks.length=0
    .have mY:dx E.P t=true:=xv.resolve_right (by omega);have Gf:vs=[]:=List.eq_nil_of_length_eq_zero (by omega);subst Gf;obtain⟨i,hi⟩:=gY hu;refine zH (by rw[mY];rfl) h λw _=>?_;simp only[execOp,g,L,Instr.loadAt,Instr.sureAddr,run_bind,run_pure,andThen_ok,loadVar,lD hu,mY,if_true,cK hi,<- zM,hz];rfl
    .refine zH (nV hp (xv.imp id λh=>by omega)) h λw hw=>?_;obtain⟨c,T,f,c1,c2,c3⟩:=vz (hw (by simp[reads,g])).De dF hz;simp only[execOp,g,L,Instr.loadAt,Instr.sureAddr,run_bind,run_pure,andThen_ok];rw[ix hk c1 c2,<- c3];rfl
 |nilCheck x=>
  simp only[W1,g]at h;have A:=I (x:=x) (by simp[g,Op.operands]);split at h
  .rename_i k O H;obtain⟨L,hm⟩:=kQ G A H;exact Fh hm h λw _=>by simp[execOp,g,L]
  .rename_i p H;have L:=bg G A H rfl;cases p with
   |none=>exact h.elim
   |some p=>exact zH rfl h λw _=>by simp[execOp,g,L]
  .rename_i f p q H;have L:=bg G A H rfl;cases f with
   |method n=>exact h.elim
   |_=>exact zH rfl h (λw _=>by simp[execOp,g,L])
  .exact h.elim
 |binOp op t x y t'=>
  simp only[W1,g]at h;have A:=I (x:=x) (by simp[g,Op.operands]);have hy:=I (x:=y) (by simp[g,Op.operands]);obtain⟨px,py,v,hp,hK,jK⟩:=Cs h x y;refine zH hp hK λw _=>?_;simp only[execOp,g];rw[oe G A px,oe G hy py];rw[run_bind,jK w];rfl
 |unOp op t x=>
  simp only[W1,g]at h;have A:=I (x:=x) (by simp[g,Op.operands]);split at h
  .rename_i b H;exact zH rfl h λw _=>by simp[execOp,g,bg G A H rfl,Op.unary]
  .rename_i k n H;exact zH rfl h λw _=>by simp[execOp,g,bg G A H rfl,Op.unary,Op.intArith]
  .exact h.elim
 |convert s d x=>
  simp only[W1,g]at h;have A:=I (x:=x) (by simp[g,Op.operands]);obtain⟨hp,h⟩:=aq h;cases J:pv E.P (convert s d (ev st.σ x))with
  |none=>simp only[J]at h
  |some v=>
   simp only[J]at h;obtain⟨lF,h⟩:=aq h;refine zH lF h λw _=>?_;simp only[execOp,g,oe G A hp,run_bind,xS J w];rfl
 |makeInterface t x=>
  simp only[W1,g]at h;have A:=I (x:=x) (by simp[g,Op.operands]);obtain⟨hp,h⟩:=aq h;cases J:pv E.P (Instr.makeInterface t (ev st.σ x))with
  |none=>simp only[J]at h
  |some v=>
   simp only[J]at h;obtain⟨lF,h⟩:=aq h;refine zH lF h λw _=>?_;simp only[execOp,g,oe G A hp,run_bind,xS J w];rfl
 |makeFunc fn first captured=>
  simp only[W1,g]at h;obtain⟨hc,h⟩:=aq h;simp only[and_eq_true]at hc;have Y:∀x∈first.toList,df C.n x=true:=λx A=>lE aJ (by simp[g,Op.operands];left;simpa using A);have U:∀x∈captured.toList,df C.n x=true:=λx A=>lE aJ (by simp[g,Op.operands];right;simpa using A);refine zH rfl h λw _=>?_;simp only[execOp,g,rY G Y hc.1,rY G U hc.2,Instr.makeFunc];rfl
 |slice t x lo hi mx=>
  simp only[W1,g]at h;exact Vg h g aJ G
 |fieldAddr t x f=>
  simp only[W1,g]at h;have A:=I (x:=x) (by simp[g,Op.operands]);cases hd:Dv E.P t f with
  |none=>simp only[hd]at h
  |some d=>
   simp only[hd]at h;split at h
   .rename_i k O H;obtain⟨L,hm⟩:=kQ G A H;exact Fh hm h λw _=>by simp only[execOp,g,L,run_bind,mR hd];rfl
   .obtain⟨b,O,J,h⟩:=gG h;have L:=bg G A J rfl;exact zH rfl h λw _=>by simp only[execOp,g,L,run_bind,mR hd];rfl
 |field t x f=>simp only[W1,g]at h;exact acS h g aJ G
 |indexAddr t x i=>
  simp only[W1,g]at h;have A:=I (x:=x) (by simp[g,Op.operands]);have hi:=I (x:=i) (by simp[g,Op.operands]);split at h
  .rename_i e b len c k j hu H Lv;obtain⟨fL,h⟩:=aq h;obtain⟨ie,Ds⟩:=Option.isSome_iff_exists.1 fL;obtain⟨bb,O,rfl,Y,U,h⟩:=gj h;refine zH rfl h λw _=>?_;simp only[execOp,g,bg G A H rfl,bg G hi Lv rfl,Instr.indexAt,asIntOf,run_bind,run_pure,andThen_ok,aT hu];rw[if_pos ⟨Y,U⟩];simp only[run_bind,cK Ds,andThen_ok,run_pure,kr]
  .rename_i len e k O kk j hu H Lv;obtain⟨hc,h⟩:=aq h;simp only[and_eq_true,decide_eq_true_eq]at hc;obtain⟨⟨Y,U⟩,fL⟩:=hc;obtain⟨ie,Ds⟩:=Option.isSome_iff_exists.1 fL;obtain⟨L,hm⟩:=kQ G A H;refine Fh hm h λw _=>?_;simp only[execOp,g,L,bg G hi Lv rfl,Instr.indexAt,asIntOf,run_bind,run_pure,andThen_ok,aT hu,Instr.sureAddr];rw[if_pos ⟨Y,U⟩];simp only[run_bind,cK Ds,andThen_ok,run_pure,kr]
  .exact h.elim
 |index t x i=>
  simp only[W1,g]at h;have A:=I (x:=x) (by simp[g,Op.operands]);have hi:=I (x:=i) (by simp[g,Op.operands]);split at h
  .rename_i s k j hu H Lv;obtain⟨Y,c,U,h⟩:=h;refine zH rfl h λw _=>?_;simp only[execOp,g,bg G A H rfl,bg G hi Lv rfl,Instr.index,asIntOf,run_bind,run_pure,andThen_ok,aT hu,if_pos Y,U]
  .rename_i len e cs k j hu H Lv;obtain⟨Y,U,fL,v,J,lF,h⟩:=h;obtain⟨ie,Ds⟩:=Option.isSome_iff_exists.1 fL;refine zH lF h λw _=>?_;simp only[execOp,g,bg G A H rfl,bg G hi Lv rfl,Instr.index,asIntOf,run_bind,run_pure,andThen_ok,aT hu,if_pos (show(0:Int)<=j/\j<len from⟨Y,U⟩),cK Ds];rw[ML J];rfl
  .exact h.elim
 |extract x i=>
  simp only[W1,g]at h;have A:=I (x:=x) (by simp[g,Op.operands]);split at h
  .rename_i vs H;cases J:vs[i]? with
   |none=>simp only[J]at h
   |some v=>
    simp only[J]at h;obtain⟨lF,h⟩:=aq h;exact zH lF h λw _=>by simp[execOp,g,bg G A H rfl,Instr.extract,J]
  .exact h.elim
 |call c=>
  simp only[W1,g]at h;obtain⟨callee,args,ts⟩:=c;cases callee with
  |builtin b=>simp only at h;exact ahj ht h g aJ G
  |value f=>simp[bF,g]at ht
  |invoke r m=>simp[bF,g]at ht
 |_=>simp[bF,g]at ht
def Du{ops:Array Oper}{r:Array Bool}{j:Nat}:∀l:List Nat,iW ops r l=some j->j∈l/\∃y,ops[j]?=some y/\bF y=true/\Region.free .any ops r j=true:=by
 intro l;induction l with
 |nil=>intro h;simp[iW]at h
 |cons x l A=>
  intro h;simp only[iW]at h;cases e:ops[x]? with
  |none=>
   simp only[e,Bool.false_and,cond_false]at h;obtain⟨i,g⟩:=A h;exact⟨by simp[i],g⟩
  |some w=>
   simp only[e]at h;cases hc:bF w&&Region.free .any ops r x with
   |true=>
    simp only[hc,cond_true,Option.some.injEq]at h;subst h;simp only[and_eq_true]at hc;exact⟨by simp,w,e,hc.1,hc.2⟩
   |false=>
    simp only[hc,cond_false]at h;obtain⟨i,g⟩:=A h;exact⟨by simp[i],g⟩
inductive PS(ops:Array Oper)(af:Array Bool):Nat->jl->Prop
 |nil (f:Nat) (h:Region.ready .any ops af=[]):PS ops af f .nil
 |tk (f j:Nat) (p:jl) (oj:Oper) (ho:ops[j]?=some oj) (ht:bF oj=true) (hf:Region.free .any ops af j=true) (hr:j∈Region.ready .any ops af) (hp:eK ops f (af.setIfInBounds j true)=some p):PS ops af (f+1) (.tk j p)
 |ef (f i:Nat) (p:jl) (hr:Region.ready .any ops af=[i]) (h1:bR ops i p=true) (hp:eK ops f (af.setIfInBounds i true)=some p):PS ops af (f+1) (.ef i p)
 |Tm (f i j:Nat) (p q:jl) (hr:Region.ready .any ops af=[i,j]) (h1:bR ops i p=true) (h2:bR ops j q=true) (hp:eK ops f (af.setIfInBounds i true)=some p) (hq:eK ops f (af.setIfInBounds j true)=some q):PS ops af (f+1) (.Tm i p j q)
 |Tl (f i j k:Nat) (p q r:jl) (hr:Region.ready .any ops af=[i,j,k]) (h1:bR ops i p=true) (h2:bR ops j q=true) (h3:bR ops k r=true) (hp:eK ops f (af.setIfInBounds i true)=some p) (hq:eK ops f (af.setIfInBounds j true)=some q) (UJ:eK ops f (af.setIfInBounds k true)=some r):PS ops af (f+1) (.Tl i p j q k r)
def Bp:∀(f:Nat) (g:Array Bool) (p:jl) (ops:Array Oper),eK ops f g=some p->PS ops g f p
 |0,g,p,ops,h=>by
  simp only[eK]at h
  cases e:Region.ready .any ops g with
  |nil=>simp only[e,Option.some.injEq]at h;subst h;exact .nil 0 e
  |cons i rs=>simp[e]at h
 |f+1,g,p,ops,h=>by
  simp only[eK]at h
  cases e:Region.ready .any ops g with
  |nil=>simp only[e,Option.some.injEq]at h;subst h;exact .nil _ e
  |cons i rs=>
   simp only[e]at h
   cases y:iW ops g (i::rs)with
   |some j=>
    simp only[y]at h
    obtain⟨L,H,I,J,O⟩:=Du _ y
    cases hp:eK ops f (g.setIfInBounds j true)with
    |none=>simp[hp]at h
    |some r=>
     simp only[hp,Option.some.injEq]at h;subst h;exact .tk f j r H I J O (by rw[e];exact L) hp
   |none=>
    simp only[y]at h
    match rs,e,h with
    |[],e,h=>
     cases hp:eK ops f (g.setIfInBounds i true)with
     |none=>simp[hp]at h
     |some r=>
      simp only[hp]at h;cases hc:bR ops i r with
      |false=>simp[hc]at h
      |true=>simp only[hc,cond_true,Option.some.injEq]at h;subst h;exact .ef f i r e hc hp
    |[j],e,h=>
     cases hp:eK ops f (g.setIfInBounds i true)with
     |none=>simp[hp]at h
     |some r=>
      cases w:eK ops f (g.setIfInBounds j true)with
      |none=>simp[hp,w]at h
      |some x=>
       simp only[hp,w]at h;cases hc:bR ops i r&&bR ops j x with
       |false=>simp[hc]at h
       |true=>
        simp only[hc,cond_true,Option.some.injEq]at h;subst h;simp only[and_eq_true]at hc;exact .Tm f i j r x e hc.1 hc.2 hp w
    |[j,k],e,h=>
     cases hp:eK ops f (g.setIfInBounds i true)with
     |none=>simp[hp]at h
     |some r=>
      cases w:eK ops f (g.setIfInBounds j true)with
      |none=>simp[hp,w]at h
      |some x=>
       cases A:eK ops f (g.setIfInBounds k true)with
       |none=>simp[hp,w,A]at h
       |some G=>
        simp only[hp,w,A]at h;cases hc:bR ops i r&&bR ops j x&&bR ops k G with
        |false=>simp[hc]at h
        |true=>
         simp only[hc,cond_true,Option.some.injEq]at h;subst h;simp only[and_eq_true]at hc;exact .Tl f i j k r x G e hc.1.1 hc.1.2 hc.2 hp w A
    |_::_::_::_,_,h=>simp at h
structure Syn(nQ:St)(θ0:Nat->Nat)(st:St)(θ:Nat->Nat):Prop where
 D:st.D=nQ.D
 θ:∀k m,(k,m)∈nQ.D->θ k=θ0 k
 gh:∀k m,(k,m)∈nQ.D->∀j,j<m->st.σ (gx k j)=nQ.σ (gx k j)
def UE{θ g:Nat->Nat}{v r:Value}(i:∀k o,v≠dU k o):R θ v r->R g v r:=λh=>G_ h λk o e=>absurd e (i k o)
def rK{r st:St}{i θ:Nat->Nat}(h:Syn r i st θ)(I:∀k m,(k,m)∈r.D->∀j,j<m->∀J o,r.σ (gx k j)≠dU J o)(w:World):kT u0 r i w↔kT u0 st θ w:=by
 constructor
 .rintro⟨y,x⟩;refine⟨y,λk m e=>?_⟩;rw[h.D]at e;obtain⟨c,T,H,G,A⟩:=x k m e;exact⟨c,T,by rw[h.θ k m e];exact H,G,λj g=>by rw[h.gh k m e j g];exact UE (I k m e j g) (A j g)⟩
 .rintro⟨y,x⟩;refine⟨y,λk m e=>?_⟩;obtain⟨c,T,H,G,A⟩:=x k m (h.D▸e);exact⟨c,T,by rw[<- h.θ k m e];exact H,G,λj g=>UE (I k m e j g) (by rw[<- h.gh k m e j g];exact A j g)⟩
def Inv.MI(g:Inv C a wa st u θ)(e:sg u0 u):kT u0 st θ wa:=by
 refine⟨⟨g.below.os.trans e.os,g.below.tape.trans e.tape,g.below.output.trans e.output,le_trans e.size g.below.size,λb h=>?_⟩,λk m i=>?_⟩
 .rw[<- e.block b h];exact g.below.block b (lt_of_lt_of_le h e.size)
 .obtain⟨_,c,T,w,r,j,_⟩:=g.boxes k m i;exact⟨c,T,w,r,j⟩
def QN(Q:Act->World->Prop):Exit->Act->World->Prop
 | .normal,a,w=>Q a w
 |_,_,_=>False
theorem qt{ops:Array Oper}{oj:Oper}{act skip:St->Prop}{G:Prop}(aJ:∀o∈ops.toList,bC C.n o=true)(hI:Inv C a wa st u θ)(h:guarded ops oj st act skip)
  (yes:Region.wanted oj (yielded ops a.tmps)=true->act st->G) (no:Region.wanted oj (yielded ops a.tmps)=false->skip st->G):G:=by
 unfold guarded at h;cases hg:oj.guard with
 |none=>
  simp only[hg]at h;exact yes (by simp[Region.wanted,hg]) h
 |some jb=>
  obtain⟨x,b⟩:=jb;simp only[hg]at h;cases yh:pT ops x with
  |none=>simp only[yh]at h
  |some g=>
   simp only[yh]at h;have hgn:g<C.n:=by
    unfold pT at yh;cases hj:ops[x]? with
    |none=>simp[hj]at yh
    |some ox=>
     simp only[hj,Option.bind_some]at yh
     exact eI (aJ ox (by have:ops.toList[x]?=some ox:=by simpa using hj
                         exact mem_of_getElem? this)) g yh
   have Qk:yielded ops a.tmps x=match a.tmps.getD g undef with| .bool x=>some x|_=>none:=by
    unfold yielded;unfold pT at yh;rw[yh,Option.bind_some,getD_some hI.size hgn];cases a.tmps.getD g undef<;>rfl
   have vT:=hI.iL g hgn;split at h
   .rename_i c hc;rw[hc,iZ rfl]at vT;rw[vT]at Qk;have hw:Region.wanted oj (yielded ops a.tmps)=(c == b):=by
     simp only[Region.wanted,hg,Qk];cases c<;>cases b<;>rfl
    cases c with
    |true=>
     simp only[ab]at h;rw[vi hc]at h;cases b with
     |true=>exact yes hw h
     |false=>exact no hw h
    |false=>
     simp only[ab]at h;rw[vi hc]at h;cases b with
     |true=>exact no hw h
     |false=>exact yes hw h
   .rename_i vs hc;rw[hc,iZ rfl]at vT;rw[vT]at Qk;exact no (by simp[Region.wanted,hg,Qk]) h
   .exact h.elim
def Sy(ops:Array Oper)(u0:UW)(g:St)(e:Nat->Nat)(p:jl)(st:St)(u:UW)(θ:Nat->Nat):Prop:=(sg u0 u/\Syn g e st θ)\/(dV ops p=false/\bS ops p=false)
def Syn.fin{r:St}{g:Nat->Nat}{h:Oper}(i:Syn r g st θ)(H:bC C.n h=true)(A:Inv C a wa st u θ)(v:Value):Syn r g (fin h st v) θ:=by
 refine⟨i.D,i.θ,λk m w j x=>?_⟩;rw[<- i.gh k m w j x];simp only[Go.aP.fin];cases y:h.dst with
 |none=>rfl
 |some d=>
  simp only[put];have G:=eI H d y;rw[cw _ _ (show gx k j≠d from λe=>absurd (lt_of_lt_of_le G A.jf) (not_lt.2 (e▸jv k j)))]
def yB{a b c:World}(h:Below a.heap.size a b)(k:Below b.heap.size b c):Below a.heap.size a c:=
 ⟨k.os.trans h.os,k.tape.trans h.tape,k.output.trans h.output,le_trans h.size k.size,λi e=>(k.block i (lt_of_lt_of_le e h.size)).trans (h.block i e)⟩
def abD{fz A:List Nat}{o:Oper}{st:St}{u:UW}{K:St->UW->Prop}(w:qS o=true)(hp:il E.fA o=false)(h:W1 E fz o st u K):W1 E A o st u λH u'=>Below u.heap.size u.toWorld u'.toWorld/\K H u':=by
 unfold qS at w;unfold il at hp;unfold W1 at h |-;split at w
 .rename_i t j;simp only[j]at h hp |-;cases hz:(E.P.info? t).bind (·.zero)with
  |none=>rw[hz]at h;exact h.elim
  |some z=>
   rw[hz]at h;simp only at h |-;cases r:o.dst with
   |none=>rw[r]at h;exact h.elim
   |some k=>
    rw[r]at h hp;simp only at h hp |-;rw[hp]at h |-;exact λb i g=>⟨g.below,h b i g⟩
 .rename_i t x j;simp only[j]at h hp |-;obtain⟨y,h⟩:=aq h;rw[y];simp only[cond_true];cases r:o.dst with
  |none=>rw[r]at h;exact h.elim
  |some k=>
   rw[r]at h hp;simp only at h hp |-;rw[hp]at h |-;exact λb i g=>⟨g.below,h b i g⟩
 .rename_i t len ps j;simp only[j]at h |-;obtain⟨y,h⟩:=aq h;rw[y];simp only[cond_true];cases he:wm E.P t with
  |none=>rw[he]at h;exact h.elim
  |some e=>
   rw[he]at h;simp only at h |-;cases g:pf (E.P.cellsOf e) 0 (ps.toList.map λp=>(p.1,ev st.σ p.2))with
   |none=>rw[g]at h;exact h.elim
   |some I=>
    rw[g]at h;simp only at h |-;obtain⟨G,h⟩:=aq h;rw[G];exact λb i g=>⟨g.below,h b i g⟩
 .cases w
def Na{fz:List Nat}{o:Oper}{K:St->UW->Prop}(g:qS o=true)(j:bC C.n o=true)(i:Inv C a wa st u θ)(h:W1 E fz o st u K):∃v r,(execOp a.eval o).run E.P wa=.ok (.value v) (wa.alloc r):=by
 unfold qS at g;unfold W1 at h;split at g
 .rename_i t e;simp only[e]at h;cases hz:(E.P.info? t).bind (·.zero)with
  |none=>rw[hz]at h;exact h.elim
  |some z=>
   refine⟨.pointer (some ⟨wa.heap.size,0,none⟩),.cells z.cells t (0,0),?_⟩;simp only[execOp,e,run_bind,DY hz,andThen_ok];rfl
 .rename_i t x e;simp only[e]at h;obtain⟨y,h⟩:=aq h;have w:df C.n x=true:=lE j (by simp[e,Op.operands]);refine⟨.pointer (some ⟨wa.heap.size,0,none⟩),.cells (ev st.σ x).cells t (0,0),?_⟩;simp only[execOp,e,bg i w rfl y,run_bind,MM,andThen_ok];rfl
 .rename_i t len ps e;simp only[e]at h;exact Vv e j i h
 .cases g
def kT.alloc{G:St}{g:Nat->Nat}{w:World}(h:kT u0 G g w)(j:Obj):kT u0 G g (w.alloc j):=by
 have y:∀(b:Nat) (x:Obj),w.heap[b]?=some x->(w.alloc j).heap[b]?=some x:=λb x r=>by
  have i:=(Array.getElem?_eq_some_iff.1 r).1;simp only[World.alloc];rw[Array.getElem?_push,if_neg (by omega)];exact r
 refine⟨⟨h.De.os,h.De.tape,h.De.output,?_,λb A=>?_⟩,λk m H=>?_⟩
 .have:=h.De.size;simp only[World.alloc,Array.size_push];omega
 .rcases h.De.block b A with e|e
  .left;have i:b<w.heap.size:=lt_of_lt_of_le A h.De.size;rw[e,y b _ (Array.getElem?_eq_getElem i),Array.getElem?_eq_getElem i]
  .exact .inr e
 .obtain⟨c,T,L,J,I⟩:=h.boxes k m H;exact⟨c,T,y _ _ L,J,I⟩
theorem iv{ws:List Nat}{ops:Array Oper}{Ah nQ:St}{θ0:Nat->Nat}{i:Nat}{p:jl}{K:St->UW->Prop}{N:Act->World->Prop}{QQ:Act->World->Prop}(aJ:∀o∈ops.toList,bC C.n o=true)(Ge:∀o∈ops.toList,∀t,o.dst=some t->t∈ws)
  (IW:∀k m,(k,m)∈Ah.D->∀j,j<m->∀k' o,Ah.σ (gx k j)≠dU k' o) (hI:Inv C a wa st u θ) (hP:cN C.n fz ws nQ st) (hS:(sg u0 u/\Syn Ah θ0 st θ)\/(dV ops p=false/\bS ops p=false/\qY ops i=false)) (bK:bR ops i p=true)
  (hN:∀cf u' a' w' θ',Inv C a' w' cf u' θ'->cN C.n fz ws nQ cf->Sy ops u0 Ah θ0 p cf u' θ'->K cf u'->N a' w')
  (h:sK E fz ops u0 i st u K):kN E.P ops (QN QQ) i (λa' w'=>(late ops i=true->kT u0 Ah θ0 wa->kT u0 Ah θ0 w')/\N a' w') a wa:=by
 unfold sK at h;cases gZ:ops[i]? with
 |none=>simp only[gZ]at h
 |some oj=>
  simp only[gZ]at h;cases lF:il E.fA oj with
  |true=>simp only[lF,cond_true]at h
  |false=>
   simp only[lF,cond_false]at h
   have fB:oj∈ops.toList:=by have:ops.toList[i]?=some oj:=by simpa using gZ
                             exact mem_of_getElem? this
   have gL:=aJ oj fB;have jD:∀{s s':St},cN C.n fz ws nQ s->cN C.n fz oj.dst.toList s s'->cN C.n fz ws nQ s':=by
    intro s s' h1 h2;refine(h1.trans h2).mono (λ_ h=>h) λx hx=>?_;rw[mem_append]at hx;rcases hx with hx|hx
    .exact hx
    .cases tZ:oj.dst with
     |none=>simp[tZ]at hx
     |some d=>simp only[tZ,Option.toList,mem_singleton]at hx;exact Ge oj fB x (by rw[tZ,hx])
   unfold bR at bK;unfold kN;simp only[gZ];refine qt (G:=if Region.wanted oj (yielded ops a.tmps)=true then _ else _) aJ hI h (λhw h1=>?_) (λhw h1=>?_)
   .rw[if_pos hw];cases IP:qY ops i with
    |true=>
     simp only[IP,cond_true]at h1;refine nK (λa' w' hp=>?_) (kt (Q:=QN _) gL hI h1);obtain⟨cf,u',θ',dP,kF,hθ,hDD,ki,hW⟩:=hp;have Ly:cN C.n fz oj.dst.toList st cf:=kF.mono (λ_ h=>mem_append_left _ h) (λ_ h=>h);have aaN:=hDD lF;rcases hS with⟨_,kh⟩|⟨_,_,cM⟩
     .have Yg:Syn Ah θ0 cf θ':=by
       refine⟨aaN.trans kh.D,λk m hk=>?_,λk m hk j hj=>?_⟩
       .rw[hθ k m (kh.D▸hk)];exact kh.θ k m hk
       .rw[kF.fz k (List.mem_append_right _ (mem_map.2 ⟨_,kh.D▸hk,rfl⟩)) m (kh.D▸hk) j hj];exact kh.gh k m hk j hj
      exact⟨λ_ _=>(rK Yg IW w').2 (dP.MI ki),hN cf u' a' w' θ' dP (jD hP Ly) (.inl ⟨ki,Yg⟩) hW⟩
     .rw[IP]at cM;cases cM
    |false=>
     simp only[IP,cond_false]at h1;cases iH:FU ops i with
     |true=>
      have hnw:qS oj=true:=by unfold FU at iH;rw[gZ]at iH;exact iH
      obtain⟨v,ob,jg⟩:=Na hnw gL hI h1;have Wo:=kt (Q:=QN QQ) (fz:=fz++st.D.map (·.1)) gL hI (abD hnw lF h1);unfold sZ at Wo;rw[jg]at Wo |-;simp only[Oper.uponIn]at Wo |-;obtain⟨cf,u',θ',dP,kF,hθ,hDD,hbl,hW⟩:=Wo;have Ly:cN C.n fz oj.dst.toList st cf:=kF.mono (λ_ h=>mem_append_left _ h) (λ_ h=>h);have aaN:=hDD lF;refine⟨λ_ hs=>hs.alloc ob,hN cf u' _ _ θ' dP (jD hP Ly) ?_ hW⟩;rcases hS with⟨sR,kh⟩|⟨n1,n2,_⟩
      .refine .inl ⟨yB sR hbl,aaN.trans kh.D,λk m hk=>?_,λk m hk j hj=>?_⟩
       .rw[hθ k m (kh.D▸hk)];exact kh.θ k m hk
       .rw[kF.fz k (List.mem_append_right _ (mem_map.2 ⟨_,kh.D▸hk,rfl⟩)) m (kh.D▸hk) j hj];exact kh.gh k m hk j hj
      .exact .inr ⟨n1,n2⟩
     |false=>
     simp only[IP,iH,Bool.false_or,and_eq_true,not_eq_true']at bK;refine nK (λa' w' hp=>?_) (kt (Q:=QN _) gL hI h1);obtain⟨cf,u',θ',dP,kF,hθ,hDD,hW⟩:=hp;exact⟨λhh _=>(by simp[qY,iH,hh]at IP),hN cf u' a' w' θ' dP (jD hP kF) (.inr bK) hW⟩
   .rw[if_neg (by simp[hw])];have SM:=hI.cW oj.dst (eI gL) (v:=undef) rfl;have hpf:=jD hP (cN.fin st oj.dst (eI gL) hI.jf undef);rcases hS with⟨sR,kh⟩|⟨Sx,aij,amR⟩
    .exact⟨λ_ _=>(rK kh IW wa).2 (hI.MI sR),hN _ u _ wa θ SM hpf (.inl ⟨sR,kh.fin gL hI undef⟩) h1⟩
    .exact⟨λ_ hs=>hs,hN _ u _ wa θ SM hpf (.inr ⟨Sx,aij⟩) h1⟩
theorem Ux{ws:List Nat}{ops:Array Oper}{Q:Exit->St->UW->Prop}{nQ Ah:St}{θ0:Nat->Nat}(aJ:∀o∈ops.toList,bC C.n o=true)(Ge:∀o∈ops.toList,∀t,o.dst=some t->t∈ws)
  (vU:Region.noSelect ops=true) (IW:∀k m,(k,m)∈Ah.D->∀j,j<m->∀k' o,Ah.σ (gx k j)≠dU k' o):
  ∀(f:Nat) (p:jl) (af:Array Bool) (st:St) (u:UW) (a:Act) (wa:World) (θ:Nat->Nat),Cl ops af->eK ops f af=some p->Inv C a wa st u θ->cN C.n fz ws nQ st->
   Sy ops u0 Ah θ0 p st u θ->Wd E fz ops u0 (Q .normal) p st u->
   xB E.P ops (QN λa' w'=>∃cf u' θ',Inv C a' w' cf u' θ'/\cN C.n fz ws nQ cf/\Q .normal cf u') (kT u0 Ah θ0) f af a wa:=by
 intro f;induction f with
 |zero=>
  intro p af st u a wa θ ij hp hI hP hS h;cases Bp 0 af p ops hp with
  |nil _ hr=>exact⟨hr,st,u,θ,hI,hP,h⟩
 |succ f ih=>
  intro p af st u a wa θ ij hp hI hP hS h;cases Bp (f+1) af p ops hp with
  |nil _ hr=>
   refine⟨λ_=>⟨st,u,θ,hI,hP,h⟩,?_⟩;rw[hr];intro i hi;cases hi
  |tk _ j p' oj gZ gF kj dF Ap=>
   have fB:oj∈ops.toList:=by have:ops.toList[j]?=some oj:=by simpa using gZ
                             exact mem_of_getElem? this
   have gL:=aJ oj fB;have jD:∀(v:Value),cN C.n fz ws nQ (fin oj st v):=by
    intro v;refine(hP.trans (cN.fin st oj.dst (eI gL) hI.jf v)).mono (λ_ h=>h) λx hx=>?_;rw[mem_append]at hx;rcases hx with hx|hx
    .exact hx
    .cases tZ:oj.dst with
     |none=>simp[tZ]at hx
     |some d=>simp only[tZ,Option.toList,mem_singleton]at hx;exact Ge oj fB x (by rw[tZ,hx])
   have hS1:reads oj=true->∀w,kT u0 Ah θ0 w↔kT u0 st θ w:=λdF=>by
    rcases hS with⟨_,kh⟩|hn
    .exact rK kh IW
    .simp[dV,Bj,gZ,dF]at hn
   have hS2:reads oj=true->kT u0 Ah θ0 wa:=λdF=>by
    rcases hS with⟨sR,kh⟩|hn
    .exact(rK kh IW wa).2 (hI.MI sR)
    .simp[dV,Bj,gZ,dF]at hn
   have hS3:∀v,Sy ops u0 Ah θ0 p' (fin oj st v) u θ:=λv=>by
    rcases hS with⟨sR,kh⟩|hn
    .exact .inl ⟨sR,kh.fin gL hI v⟩
    .simp only[dV,bS,or_eq_false_iff]at hn;exact .inr ⟨hn.1.2,hn.2⟩
   simp only[Wd,stepT,gZ]at h;refine qt aJ hI h (λhw h1=>?_) (λhw h1=>?_)
   .obtain⟨v,r,hR,WH,hK,jg⟩:=NV gF gL hI h1;refine vh gZ (Region.noSelect_spec vU) (λc a w hq=>hq.elim) f af a wa (Region.free_spec gZ kj) ij dF (v:=r) (.inl ⟨hw,λw Wk=>jg w λyd=>(hS1 yd w).1 (Wk yd)⟩) hS2 ?_;exact ih p' _ _ u _ wa θ (ij.set dF) Ap (hI.fin oj.dst (eI gL) hR WH) (jD v) (hS3 v) hK
   .refine vh gZ (Region.noSelect_spec vU) (λc a w hq=>hq.elim) f af a wa (Region.free_spec gZ kj) ij dF (v:=undef) (.inr ⟨hw,rfl⟩) hS2 ?_;exact ih p' _ _ u _ wa θ (ij.set dF) Ap (hI.cW oj.dst (eI gL) rfl) (jD undef) (hS3 undef) h1
  |ef _ i p' hr bK Ap=>
   refine⟨λh0=>(by rw[hr]at h0;cases h0),λx hx=>?_⟩;rw[hr]at hx;simp only[mem_singleton]at hx;subst hx;refine iv (p:=p') aJ Ge IW hI hP (hS.imp id λhh=>?_) bK (λcf u' a' w' θ' dP kF Lx hW=>ih p' _ cf u' a' w' θ' (ij.set (by rw[hr];simp)) Ap dP kF Lx hW) h;simp only[dV,bS,or_eq_false_iff]at hh;exact⟨hh.1,hh.2.2,hh.2.1⟩
  |Tm _ i j p' q' hr bK tV Ap hq'=>
   refine⟨λh0=>(by rw[hr]at h0;cases h0),λx hx=>?_⟩;rw[hr]at hx;simp only[mem_cons,List.not_mem_nil,or_false]at hx;rcases hx with rfl|rfl
   .refine iv (p:=p') aJ Ge IW hI hP (hS.imp id λhh=>?_) bK (λcf u' a' w' θ' dP kF Lx hW=>ih p' _ cf u' a' w' θ' (ij.set (by rw[hr];simp)) Ap dP kF Lx hW) h.1;simp only[dV,bS,or_eq_false_iff]at hh;exact⟨hh.1.1,hh.2.1.2,hh.2.1.1⟩
   .refine iv (p:=q') aJ Ge IW hI hP (hS.imp id λhh=>?_) tV (λcf u' a' w' θ' dP kF Lx hW=>ih q' _ cf u' a' w' θ' (ij.set (by rw[hr];simp)) hq' dP kF Lx hW) h.2;simp only[dV,bS,or_eq_false_iff]at hh;exact⟨hh.1.2,hh.2.2.2,hh.2.2.1⟩
  |Tl _ i j k p' q' r' hr bK tV hlt'' Ap hq' yd=>
   refine⟨λh0=>(by rw[hr]at h0;cases h0),λx hx=>?_⟩;rw[hr]at hx;simp only[mem_cons,List.not_mem_nil,or_false]at hx;rcases hx with rfl|rfl|rfl
   .refine iv (p:=p') aJ Ge IW hI hP (hS.imp id λhh=>?_) bK (λcf u' a' w' θ' dP kF Lx hW=>ih p' _ cf u' a' w' θ' (ij.set (by rw[hr];simp)) Ap dP kF Lx hW) h.1;simp only[dV,bS,or_eq_false_iff]at hh;exact⟨hh.1.1.1,hh.2.1.1.2,hh.2.1.1.1⟩
   .refine iv (p:=q') aJ Ge IW hI hP (hS.imp id λhh=>?_) tV (λcf u' a' w' θ' dP kF Lx hW=>ih q' _ cf u' a' w' θ' (ij.set (by rw[hr];simp)) hq' dP kF Lx hW) h.2.1;simp only[dV,bS,or_eq_false_iff]at hh;exact⟨hh.1.1.2,hh.2.1.2.2,hh.2.1.2.1⟩
   .refine iv (p:=r') aJ Ge IW hI hP (hS.imp id λhh=>?_) hlt'' (λcf u' a' w' θ' dP kF Lx hW=>ih r' _ cf u' a' w' θ' (ij.set (by rw[hr];simp)) yd dP kF Lx hW) h.2.2;simp only[dV,bS,or_eq_false_iff]at hh;exact⟨hh.1.2,hh.2.2.2,hh.2.2.1⟩
def lL(P:Program)(ops:Array Oper)(g:Bool)(j:Nat)(K:Act->World->Prop)(a:Act)(w:World):Prop:=
 match ops[j]? with
 |none=>False
 |some o=>if Region.wanted o (yielded ops a.tmps)then
   (g=true->∃v e,(execOp a.eval o).run P w=.ok (.value v) e/\(e=w\/∃h,e=w.alloc h))/\
   ∀v e,(execOp a.eval o).run P w=.ok (.value v) e->(e=w\/∃h,e=w.alloc h)->K (a.put o.dst v) e
  else K (a.put o.dst undef) w
def TQ(P:Program)(ops:Array Oper)(g:Exit->Act->World->Prop):Nat->Array Bool->List Nat->Act->World->Prop
 |0,e,_,a,w=>Region.ready .any ops e=[]/\g .normal a w
 |f+1,e,h,a,w=>(Region.ready .any ops e=[]->g .normal a w)/\
  ∀j∈Region.ready .any ops e,cT h j=false->
   (lh ops j=true->lL P ops h.isEmpty j (TQ P ops g f (e.setIfInBounds j true) h) a w)/\
   (lh ops j=false->kN P ops g j (TQ P ops g f (e.setIfInBounds j true) []) a w)
def GW{P:Program}{ops:Array Oper}{G:Exit->Act->World->Prop}:∀(f:Nat) (g:Array Bool) (a:Act) (w:World),TQ P ops G f g [] a w->xB P ops G (λ_=>True) f g a w
 |0,_,_,_,h=>h
 |f+1,g,a,w,h=>by
  refine⟨h.1,λi J=>?_⟩
  have A:=h.2 i J rfl
  cases y:lh ops i with
  |false=>exact tg (λO j L=>⟨λ_ _=>trivial,GW f _ _ _ L⟩) (A.2 y)
  |true=>
   have e:=A.1 y;unfold lL at e;unfold kN;cases x:ops[i]? with
   |none=>rw[x]at e;exact e.elim
   |some o=>
    rw[x]at e;simp only at e |-;split<;>rename_i H<;>simp only[H,if_true,if_false,false_eq_true]at e
    .obtain⟨v,j,r,I⟩:=e.1 rfl;rw[r];exact⟨λ_ _=>trivial,GW f _ _ _ (e.2 v j r I)⟩
    .exact⟨λ_ _=>trivial,GW f _ _ _ e⟩
def Ok{P:Program}{ops:Array Oper}{j:Nat}{i g:Oper}{v:Value}{e:Bool}{K:Act->World->Prop}{a:Act}{w:World}(J:ops[j]?=some g)(O:i.apart ops g=true)(r:∀cs b,g.op≠ .select cs b)
  (h:lL P ops e j K (a.put i.dst v) w):lL P ops e j (λL w'=>K (L.put i.dst v) w') a w:=by
 obtain⟨A,y,U⟩:=Oper.apart_spec O;unfold lL at h |-;simp only[J,wanted_put g a i.dst v A,execOp_put g r a i.dst v A]at h |-;split<;>rename_i G<;>simp only[G,if_true,if_false,false_eq_true]at h
 .refine⟨h.1,λx w' I H=>?_⟩;rw[<- Act.put_comm a v x y];exact h.2 x w' I H
 .rw[<- Act.put_comm a v undef y];exact h
def DR{P:Program}{ops:Array Oper}{j:Nat}{y I:Bool}{K1 H K:Act->World->Prop}{a:Act}{w:World}(G:∀(g:Oper) (x:Value) (w':World),ops[j]?=some g->(w'=w\/∃J,w'=w.alloc J)->K1 (a.put g.dst x) w'->H (a.put g.dst x) w'->K (a.put g.dst x) w')
  (e:lL P ops y j K1 a w) (h:lL P ops I j H a w):lL P ops y j K a w:=by
 unfold lL at e h |-;cases i:ops[j]? with
 |none=>rw[i]at e;exact e.elim
 |some g=>
  rw[i]at e h;simp only at e h |-;split<;>rename_i L<;>simp only[L,if_true,if_false,false_eq_true]at e h
  .exact⟨e.1,λv w' A r=>G g v w' i r (e.2 v w' A r) (h.2 v w' A r)⟩
  .exact G g undef w i (.inl rfl) e h
def KE{P:Program}{ops:Array Oper}{j:Nat}{t:Bool}{K1 K:Act->World->Prop}{a:Act}{w:World}(A:∀(e:Oper) (x:Value) (w':World),ops[j]?=some e->(w'=w\/∃h,w'=w.alloc h)->K1 (a.put e.dst x) w'->K (a.put e.dst x) w')
  (g:lL P ops t j K1 a w):lL P ops t j K a w:=DR (λe x w' y r i _=>A e x w' y r i) g g
def CC{P:Program}{ops:Array Oper}{O:Exit->Act->World->Prop}{S:World->Prop}{i:Nat}{H:Oper}{v:Value}(hi:ops[i]?=some H)(Pf:lh ops i=true)(vU:∀(j:Nat) (o:Oper) cs b,ops[j]?=some o->o.op≠ .select cs b)
  (hQ:∀c a w,O (.panic c) (a.put H.dst v) w->O (.panic c) a w) (hSc:∀w ob,S w->S (w.alloc ob)):
  ∀(f:Nat) (r:Array Bool) (A:List Nat) (a:Act) (w:World),
   (∀j I,ops[j]?=some I->j≠i->r.getD j true=false->(∀e∈I.after,Region.binds .any e=true->e.on≠i)->H.apart ops I=true)->
   i∈Region.ready .any ops r->cT A i=false->YieldsIf P ops S H v a->S w->
   TQ P ops O f (r.setIfInBounds i true) A (a.put H.dst v) w->((∀w,S w)\/TQ P ops O (f+1) r (i::A) a w)->TQ P ops O (f+1) r A a w:=by
 have self:∀(f:Nat) (r:Array Bool) (A:List Nat) (a:Act) (w:World),YieldsIf P ops S H v a->S w->TQ P ops O f (r.setIfInBounds i true) A (a.put H.dst v) w->
   lL P ops A.isEmpty i (TQ P ops O f (r.setIfInBounds i true) A) a w:=by
  intro f r A a w U Y hA;unfold lL;simp only[hi];rcases U with⟨hw,hv⟩|⟨hw,rfl⟩
  .rw[if_pos hw];refine⟨λ_=>⟨v,w,hv w Y,.inl rfl⟩,λx G L _=>?_⟩;rw[hv w Y]at L;cases L;exact hA
  .rw[if_neg (by simp[hw])];exact hA
 intro f;induction f with
 |zero=>
  intro r A a w kj L hb U Y hA J;refine⟨λh=>(by rw[h]at L;cases L),λj hj Aq=>?_⟩;by_cases g:j=i
  .subst g;exact⟨λ_=>self 0 r A a w U Y hA,λh=>(by rw[Pf]at h;cases h)⟩
  .have:=ready_mono hj g;rw[hA.1]at this;cases this
 |succ f ih=>
  intro r A a w kj L hb U Y hA J;refine⟨λh=>(by rw[h]at L;cases L),λj hj Aq=>?_⟩;by_cases g:j=i
  .subst g;exact⟨λ_=>self (f+1) r A a w U Y hA,λh=>(by rw[Pf]at h;cases h)⟩
  .have h1:=hA.2 j (ready_mono hj g) Aq;obtain⟨SJ,I,gZ,jK⟩:=mem_ready.1 hj;have IM:∀e∈I.after,Region.binds .any e=true->e.on≠i:=λe he hb heq=>by
    have h1:=jK e he hb;have h0:=(mem_ready.1 L).1;rw[heq]at h1;rcases lt_or_ge i r.size with h'|h'
    .simp[h']at h0 h1;rw[h0]at h1;cases h1
    .simp[getElem?_eq_none h']at h1
   have SY:=kj j I gZ g SJ IM;have Gm:∀k ok,ops[k]?=some ok->k≠i->(r.setIfInBounds j true).getD k true=false->
     (∀e∈ok.after,Region.binds .any e=true->e.on≠i)->H.apart ops ok=true:=λk ok hk hki hun cM=>by
    refine kj k ok hk hki ?_ cM;by_cases hjk:j=k
    .subst hjk;exact SJ
    .rw[getD_set_ne true hjk]at hun;exact hun
   have Yu:(r.setIfInBounds i true).setIfInBounds j true=(r.setIfInBounds j true).setIfInBounds i true:=Array.setIfInBounds_comm _ _ (Ne.symm g);have adO:∀(b:Act) (x:Value),YieldsIf P ops S H v b->YieldsIf P ops S H v (b.put I.dst x):=λb x hb=>by
    obtain⟨_,_,h3⟩:=Oper.apart_spec SY;exact hb.of_same (execOp_put H (λcs b=>vU i H cs b hi) b I.dst x h3) (wanted_put H b I.dst x h3)
   refine⟨λhn=>?_,λhn=>?_⟩
   .have k1:=Ok gZ SY (λcs b=>vU j I cs b gZ) (h1.1 hn);have go:∀(a':Act) (G:World),YieldsIf P ops S H v a'->S G->TQ P ops O f ((r.setIfInBounds i true).setIfInBounds j true) A (a'.put H.dst v) G->((∀w,S w)\/TQ P ops O (f+1) (r.setIfInBounds j true) (i::A) a' G)->TQ P ops O (f+1) (r.setIfInBounds j true) A a' G:=λa' G y1 y2 y3 y4=>
     ih (r.setIfInBounds j true) A a' G Gm (ready_mono L (Ne.symm g)) hb y1 y2 (by rw[Yu]at y3;exact y3) y4
    have hSn:∀G,(G=w\/∃ob,G=w.alloc ob)->S G:=λG hs=>by
     rcases hs with rfl|⟨ob,rfl⟩
     .exact Y
     .exact hSc w ob Y
    rcases J with J|J
    .refine KE (λoj' x G Pe hs y1=>?_) k1;have:oj'=I:=by rw[gZ]at Pe;cases Pe;rfl
     subst this;exact go _ _ (adO a x U) (hSn G hs) y1 (.inl J)
    .have aaE:cT (i::A) j=false:=by
      cases hm:cT (i::A) j with
      |false=>rfl
      |true=>
       rcases mem_cons.1 (eg.1 hm)with h|h
       .exact absurd h g
       .rw[eg.2 h]at Aq;cases Aq
     have k2:=(J.2 j hj aaE).1 hn;refine DR (λoj' x G Pe hs y1 y2=>?_) k1 k2;have:oj'=I:=by rw[gZ]at Pe;cases Pe;rfl
     subst this;exact go _ _ (adO a x U) (hSn G hs) y1 (.inr y2)
   .rcases J with J|J
    .have k1:=DJ (S:=S) gZ SY (λcs b=>vU i H cs b hi) (λcs b=>vU j I cs b gZ) hQ U (h1.2 hn);refine tg (λa' G y=>?_) k1;exact ih (r.setIfInBounds j true) [] a' G Gm (ready_mono L (Ne.symm g)) rfl y.1 (J G) (by have:=y.2;rw[Yu]at this;exact this) (.inl J)
    .have aaE:cT (i::A) j=false:=by
      cases hm:cT (i::A) j with
      |false=>rfl
      |true=>
       rcases mem_cons.1 (eg.1 hm)with h|h
       .exact absurd h g
       .rw[eg.2 h]at Aq;cases Aq
     exact(J.2 j hj aaE).2 hn
def pL(e:Array Bool):Nat:=(e.toList.filter (!·)).length
def Ei:∀(l:List Bool) (i:Nat),i<l.length->l[i]?=some false->((l.set i true).filter (!·)).length+1=(l.filter (!·)).length
 |[],i,h,_=>by simp at h
 |b::l,0,_,h=>by simp only[List.getElem?_cons_zero,Option.some.injEq]at h;subst h;simp
 |b::l,i+1,h,e=>by
  simp only[List.getElem?_cons_succ]at e
  simp only[length_cons]at h
  have:=Ei l i (by omega) e
  show((b::l.set i true).filter (!·)).length+1=((b::l).filter (!·)).length;cases b<;>simp at this |- <;>omega
def rN{e:Array Bool}{i:Nat}{ops:Array Oper}(r:i∈Region.ready .any ops e)(j:e.size=ops.size):pL (e.setIfInBounds i true)+1=pL e:=by
 obtain⟨h,x,w,_⟩:=mem_ready.1 r;have g:i<e.size:=by rw[j];exact(Array.getElem?_eq_some_iff.1 w).1
 unfold pL;rw[Array.toList_setIfInBounds];refine Ei _ i (by simpa using g) ?_;rw[getD_eq_getD_getElem?,Array.getElem?_eq_getElem g]at h;rw[Array.getElem?_toList,Array.getElem?_eq_getElem g];exact congrArg some h
def Eh{e:Array Bool}{i:Nat}{ops:Array Oper}(h:i∈Region.ready .any ops e)(g:e.size=ops.size):0<pL e:=by
 have:=rN h g;omega
def abF{P:Program}{ops:Array Oper}{QQ:Exit->Act->World->Prop}:∀(f:Nat) (i:Array Bool) (g:List Nat) (a:Act) (w:World),i.size=ops.size->pL i<=f->Cl ops i->g≠[]->(∀x∈g,x∈Region.ready .any ops i)->N_ ops i g=true->TQ P ops QQ f i g a w:=by
 intro f;induction f with
 |zero=>
  intro i g a w hs hn ij O H r;cases g with
  |nil=>exact absurd rfl O
  |cons x g=>have:=Eh (H x (by simp)) hs;omega
 |succ f ih=>
  intro i g a w hs hn ij O H r;obtain⟨x,G⟩:∃x,x∈g:=by
   cases g with
   |nil=>exact absurd rfl O
   |cons x g=>exact⟨x,by simp⟩
  refine⟨λh=>(by have:=H x G;rw[h]at this;cases this),λj L Aq=>?_⟩;have au:∀a' Y,TQ P ops QQ f (i.setIfInBounds j true) g a' Y:=λa' Y=>by
   refine ih _ g a' Y (by simpa using hs) (by have:=rN L hs;omega) (ij.set L) O (λy hy=>?_) ?_
   .refine ready_mono (H y hy) λe=>?_;subst e;rw[eg.2 hy]at Aq;cases Aq
   .unfold N_ at r |-;rw[all_eq_true]at r |-;intro h hh;have:=r h hh;simp only[Bool.or_eq_true]at this |-;rcases this with U|U
    .left;by_cases J:j=h
     .subst J;have:=(mem_ready.1 L).1;rw[this]at U;cases U
     .rw[getD_set_ne true J];exact U
    .exact .inr U
  refine⟨λYl=>?_,λYl=>?_⟩
  .unfold lL;obtain⟨_,oj,gZ,_⟩:=mem_ready.1 L;simp only[gZ]
   have aiI:g.isEmpty=false:=by cases g with
    |nil=>exact absurd rfl O
    |cons _ _=>rfl
   rw[aiI];split
   .exact⟨λh=>(by cases h),λv Y _ _=>au _ _⟩
   .exact au _ _
  .exfalso;obtain⟨hj0,oj,gZ,jK⟩:=mem_ready.1 L;unfold N_ at r;rw[all_eq_true]at r;have:=r j (List.mem_range.2 (Array.getElem?_eq_some_iff.1 gZ).1);rw[hj0,Yl,Bool.false_or,Bool.false_or,List.any_eq_true]at this;obtain⟨y,Ni,Gc⟩:=this;have A:=(mem_ready.1 (H y (eg.1 Gc))).1;have I:i.getD y false=true:=by
    refine ij.yV ops.size (sO ops j) (λx G=>?_) y Ni;unfold sO at G;simp only[gZ]at G;obtain⟨e,he,rfl⟩:=mem_map.1 G;rw[mem_filter]at he;exact jK e (by simpa using he.1) he.2
   rcases lt_or_ge y i.size with h'|h'
   .simp[h']at A I;rw[A]at I;cases I
   .rw[getD_eq_getD_getElem?,getElem?_eq_none h']at I;cases I
def AF{ops:Array Oper}{g:Array Bool}{e:List Nat}{j:Nat}:∀l:List Nat,AG ops g e l=some j->j∈l/\∃r,ops[j]?=some r/\bF r=true/\(reads r=false\/N_ ops g (j::e)=true)/\Region.free .any ops g j=true/\cT e j=false:=by
 intro l;induction l with
 |nil=>intro h;simp[AG]at h
 |cons x l G=>
  intro h;simp only[AG]at h;cases w:ops[x]? with
  |none=>
   simp only[w,Bool.false_and,cond_false]at h;obtain⟨A,y⟩:=G h;exact⟨by simp[A],y⟩
  |some i=>
   simp only[w]at h;cases hc:(bF i&&(!reads i||N_ ops g (x::e)))&&(Region.free .any ops g x&& !cT e x)with
   |true=>
    simp only[hc,cond_true,Option.some.injEq]at h;subst h;simp only[and_eq_true,not_eq_true',Bool.or_eq_true]at hc;exact⟨by simp,i,w,hc.1.1,hc.1.2,hc.2.1,hc.2.2⟩
   |false=>
    simp only[hc,cond_false]at h;obtain⟨A,y⟩:=G h;exact⟨by simp[A],y⟩
def BE{ops:Array Oper}{w:Array Bool}{r:List Nat}{j:Nat}:∀l:List Nat,BF ops w r l=some j->j∈l/\∃A,ops[j]?=some A/\bF A=true/\Region.free .any ops w j=true/\cT r j=false:=by
 intro l;induction l with
 |nil=>intro h;simp[BF]at h
 |cons x l G=>
  intro h;simp only[BF]at h;cases e:ops[x]? with
  |none=>
   simp only[e,Bool.false_and,cond_false]at h;obtain⟨i,g⟩:=G h;exact⟨by simp[i],g⟩
  |some y=>
   simp only[e]at h;cases hc:bF y&&(Region.free .any ops w x&& !cT r x)with
   |true=>
    simp only[hc,cond_true,Option.some.injEq]at h;subst h;simp only[and_eq_true,not_eq_true']at hc;exact⟨by simp,y,e,hc.1,hc.2.1,hc.2.2⟩
   |false=>
    simp only[hc,cond_false]at h;obtain⟨i,g⟩:=G h;exact⟨by simp[i],g⟩
def uw{ops:Array Oper}{x:List Nat}{Q:St->UW->Prop}{fz:List Nat}{g:Nat->Option iC}{st:St}{u:UW}:∀(l:List Nat) (q:iC),zC ops x g l=some q->Wq E fz ops Q q st u->∀i∈l,cT x i=false->(∀o,ops[i]?=some o->bF o=false)/\∃I,g i=some I/\MH E fz ops i st u λO u'=>Wq E fz ops Q I O u'
 |[],_,_,_,i,e,_=>by cases e
 |j::l,q,h,hw,i,e,H=>by
  simp only[zC]at h
  cases y:cT x j with
  |true=>
   rw[y]at h
   simp only[cond_true]at h
   rcases mem_cons.1 e with rfl|e
   .rw[H]at y;cases y
   .exact uw l q h hw i e H
  |false=>
   rw[y]at h
   simp only[cond_false]at h
   cases w:Vf ops j true with
   |true=>rw[w]at h;cases h
   |false=>
    rw[w]at h
    simp only[cond_false]at h
    cases G:g j with
    |none=>rw[G]at h;cases h
    |some J=>
     rw[G]at h
     simp only at h
     cases A:zC ops x g l with
     |none=>rw[A]at h;cases h
     |some r=>
      rw[A]at h
      cases h
      rcases mem_cons.1 e with rfl|e
      .exact⟨λo L=>(by unfold Vf at w;rw[L]at w;exact w),J,G,hw.1⟩
      .exact uw l r A hw.2 i e H
theorem Uw{ws:List Nat}{ops:Array Oper}{Q:Exit->St->UW->Prop}{nQ:St}(aJ:∀o∈ops.toList,bC C.n o=true)(Ge:∀o∈ops.toList,∀t,o.dst=some t->t∈ws)
  (vU:Region.noSelect ops=true):
  ∀(g:Nat) (p:iC) (f:Nat) (af:Array Bool) (dr:List Nat) (st:St) (u:UW) (a:Act) (wa:World) (θ:Nat->Nat),af.size=ops.size->pL af<=f->(∀x∈dr,x∈Region.ready .any ops af)->Cl ops af->lO ops g af dr=some p->Inv C a wa st u θ->cN C.n fz ws nQ st->
   Wq E fz ops (Q .normal) p st u->
   TQ E.P ops (QN λa' w'=>∃cf u' θ',Inv C a' w' cf u' θ'/\cN C.n fz ws nQ cf/\Q .normal cf u') f af dr a wa:=by
 intro g;induction g with
 |zero=>intro p f af dr st u a wa θ _ _ _ _ hp;simp[lO]at hp
 |succ g ih=>
  intro p f af dr st u a wa θ fK Nk hbr ij hp hI hP h;simp only[lO]at hp;have Bn:∀{oj:Oper},oj∈ops.toList->∀{s s':St},cN C.n fz ws nQ s->cN C.n fz oj.dst.toList s s'->cN C.n fz ws nQ s':=by
   intro oj fB s s' h1 h2;refine(h1.trans h2).mono (λ_ h=>h) λx hx=>?_;rw[mem_append]at hx;rcases hx with hx|hx
   .exact hx
   .cases tZ:oj.dst with
    |none=>simp[tZ]at hx
    |some d=>simp only[tZ,Option.toList,mem_singleton]at hx;exact Ge oj fB x (by rw[tZ,hx])
  have take:∀{j:Nat} {oj:Oper} {q:iC} {f:Nat},pL af<=f+1->j∈Region.ready .any ops af->ops[j]?=some oj->bF oj=true->Region.free .any ops af j=true->cT dr j=false->
    lO ops g (af.setIfInBounds j true) dr=some q->stepT E fz ops u j st (λcf=>Wq E fz ops (Q .normal) q cf u)->
    (reads oj=false\/TQ E.P ops (QN λa' w'=>∃cf u' θ',Inv C a' w' cf u' θ'/\cN C.n fz ws nQ cf/\Q .normal cf u') (f+1) af (j::dr) a wa)->
    TQ E.P ops (QN λa' w'=>∃cf u' θ',Inv C a' w' cf u' θ'/\cN C.n fz ws nQ cf/\Q .normal cf u') (f+1) af dr a wa:=by
   intro j oj q f Nk dF gZ gF kj Aq Ss fF hB
   have fB:oj∈ops.toList:=by have:ops.toList[j]?=some oj:=by simpa using gZ
                             exact mem_of_getElem? this
   have gL:=aJ oj fB;have jD:∀(v:Value),cN C.n fz ws nQ (fin oj st v):=λv=>Bn fB hP (cN.fin st oj.dst (eI gL) hI.jf v);have Pf:lh ops j=true:=by unfold lh;rw[gZ];simp[gF]
   have Lo:pL (af.setIfInBounds j true)<=f:=by have:=rN dF fK;omega
   have SS:∀x∈dr,x∈Region.ready .any ops (af.setIfInBounds j true):=λx hx=>ready_mono (hbr x hx) λe=>by subst e;rw[eg.2 hx]at Aq;cases Aq
   simp only[stepT,gZ]at fF;refine qt aJ hI fF (λhw h1=>?_) (λhw h1=>?_)
   .obtain⟨v,r,hR,WH,hK,jg⟩:=NV gF gL hI h1;have hA:=ih q f _ dr _ u (a.put oj.dst r) wa θ (by simpa using fK) Lo SS (ij.set dF) Ss (hI.fin oj.dst (eI gL) hR WH) (jD v) hK;cases hre:reads oj with
    |false=>exact CC (S:=λ_=>True) gZ Pf (Region.noSelect_spec vU) (λc a w hq=>hq.elim) (λ_ _ _=>trivial) f af dr a wa (Region.free_spec gZ kj) dF Aq (.inl ⟨hw,λw _=>jg w λyd=>(by rw[hre]at yd;cases yd)⟩) trivial hA (.inl λ_=>trivial)
    |true=>
     have hB':=hB.resolve_left (by rw[hre];simp);exact CC (S:=λw=>kT u st θ w) gZ Pf (Region.noSelect_spec vU) (λc a w hq=>hq.elim) (λ_ ob hs=>hs.alloc ob) f af dr a wa (Region.free_spec gZ kj) dF Aq (.inl ⟨hw,λw hs=>jg w λ_=>hs⟩) (hI.MI (Below.refl _ _)) hA (.inr hB')
   .have hA:=ih q f _ dr _ u (a.put oj.dst undef) wa θ (by simpa using fK) Lo SS (ij.set dF) Ss (hI.cW oj.dst (eI gL) rfl) (jD undef) h1;exact CC (S:=λ_=>True) gZ Pf (Region.noSelect_spec vU) (λc a w hq=>hq.elim) (λ_ _ _=>trivial) f af dr a wa (Region.free_spec gZ kj) dF Aq (.inr ⟨hw,rfl⟩) trivial hA (.inl λ_=>trivial)
  cases dF:Region.ready .any ops af with
  |nil=>
   rw[dF]at hp;cases hp;cases f with
   |zero=>exact⟨dF,st,u,θ,hI,hP,h⟩
   |succ f=>exact⟨λ_=>⟨st,u,θ,hI,hP,h⟩,λj hj=>(by rw[dF]at hj;cases hj)⟩
  |cons x0 l0=>
   have amH:0<pL af:=Eh (i:=x0) (by rw[dF];simp) fK;obtain⟨f,rfl⟩:∃k,f=k+1:=⟨f-1,by omega⟩;rw[dF]at hp;simp only at hp;cases htq:AG ops af dr (x0::l0)with
   |some j=>
    rw[htq]at hp;simp only at hp;obtain⟨CU,oj,gZ,gF,hor,kj,Aq⟩:=AF _ htq;rw[<- dF]at CU;cases Ss:lO ops g (af.setIfInBounds j true) dr with
    |none=>rw[Ss]at hp;cases hp
    |some q=>
     rw[Ss]at hp;cases hp;refine take Nk CU gZ gF kj Aq Ss h (hor.imp id λhv=>?_);exact abF (f+1) af (j::dr) a wa fK Nk ij (by simp) (λy hy=>(mem_cons.1 hy).elim (λe=>e▸CU) (hbr y)) hv
   |none=>
    rw[htq]at hp;simp only at hp;cases hlq:BF ops af dr (x0::l0)with
    |some j=>
     rw[hlq]at hp;simp only at hp;obtain⟨CU,oj,gZ,gF,kj,Aq⟩:=BE _ hlq;rw[<- dF]at CU;cases Ss:lO ops g (af.setIfInBounds j true) dr with
     |none=>rw[Ss]at hp;cases hp
     |some q=>
      cases hpr:lO ops g af (j::dr)with
      |none=>rw[Ss,hpr]at hp;cases hp
      |some r=>
       rw[Ss,hpr]at hp;cases hp;refine take Nk CU gZ gF kj Aq Ss h.1 (.inr ?_);exact ih r (f+1) af (j::dr) st u a wa θ fK Nk (λy hy=>(mem_cons.1 hy).elim (λe=>e▸CU) (hbr y)) ij hpr hI hP h.2
    |none=>
     rw[hlq]at hp;simp only at hp;have alts:=uw _ _ hp h;refine⟨λh0=>(by rw[dF]at h0;cases h0),λi hi hbi=>?_⟩;have Hv:i∈x0::l0:=by rw[<- dF];exact hi
     obtain⟨hnt,q,hq,fF⟩:=alts i Hv hbi;unfold MH at fF;cases gZ:ops[i]? with
     |none=>rw[gZ]at fF;exact fF.elim
     |some oj=>
      rw[gZ]at fF;simp only at fF
      have fB:oj∈ops.toList:=by have:ops.toList[i]?=some oj:=by simpa using gZ
                                exact mem_of_getElem? this
      have gL:=aJ oj fB;have Lo:pL (af.setIfInBounds i true)<=f:=by have:=rN hi fK;omega
      have SS:∀x∈dr,x∈Region.ready .any ops (af.setIfInBounds i true):=λx hx=>ready_mono (hbr x hx) λe=>by subst e;rw[eg.2 hx]at hbi;cases hbi
      refine⟨λhn=>?_,λhn=>?_⟩
      .rw[hn]at hq;simp only[cond_true]at hq;have hnw:qS oj=true:=by
        unfold lh at hn;rw[gZ]at hn;simp only[hnt oj gZ,Bool.false_or]at hn;exact hn
       unfold lL;simp only[gZ];refine qt (G:=if Region.wanted oj (yielded ops a.tmps)=true then _ else _) aJ hI fF (λhw h1=>?_) (λhw h1=>?_)
       .rw[if_pos hw];obtain⟨v,ob,jg⟩:=Na hnw gL hI h1;refine⟨λ_=>⟨v,_,jg,.inr ⟨ob,rfl⟩⟩,λv' w' yd _=>?_⟩;have Wo:=kt (Q:=QN λ_ _=>True) gL hI h1;unfold sZ at Wo;rw[yd]at Wo;simp only[Oper.uponIn]at Wo;obtain⟨cf,u',θ',dP,kF,_,_,hW⟩:=Wo;exact ih q f _ dr cf u' _ w' θ' (by simpa using fK) Lo SS (ij.set hi) hq dP (Bn fB hP kF) hW
       .rw[if_neg (by simp[hw])];exact ih q f _ dr _ u _ wa θ (by simpa using fK) Lo SS (ij.set hi) hq (hI.cW oj.dst (eI gL) (v:=undef) rfl) (Bn fB hP (cN.fin st oj.dst (eI gL) hI.jf undef)) h1
      .rw[hn]at hq;simp only[cond_false]at hq;unfold kN;simp only[gZ];refine qt (G:=if Region.wanted oj (yielded ops a.tmps)=true then _ else _) aJ hI fF (λhw h1=>?_) (λhw h1=>?_)
       .rw[if_pos hw];refine nK (λa' w' Nj=>?_) (kt (Q:=QN _) gL hI h1);obtain⟨cf,u',θ',dP,kF,_,_,hW⟩:=Nj;exact ih q f _ [] cf u' a' w' θ' (by simpa using fK) Lo (by simp) (ij.set hi) hq dP (Bn fB hP kF) hW
       .rw[if_neg (by simp[hw])];exact ih q f _ [] _ u _ wa θ (by simpa using fK) Lo (by simp) (ij.set hi) hq (hI.cW oj.dst (eI gL) (v:=undef) rfl) (Bn fB hP (cN.fin st oj.dst (eI gL) hI.jf undef)) h1
def P_{r:List Nat}{id:Nat}{ops:Array Oper}{Q:Exit->St->UW->Prop}{p:iC}(A:E.P.follows .mixedOrders=true)(x:∀o∈ops.toList,bC C.n o=true)(L:∀o∈ops.toList,∀t,o.dst=some t->t∈r)
  (hp:oT ops=some p) (H:Inv C a wa st u θ) (h:Wq E fz ops (Q .normal) p st u):(Code.region id ops true).wpIn (Fw C.ro) 0 E.P (QW C fz r st Q) a wa:=by
 unfold oT at hp;cases g:Region.noSelect ops with
 |false=>simp[g]at hp
 |true=>
  simp only[g,cond_true]at hp;have I:=H.drew;have J:pL (replicate ops.size false)<=ops.size:=by
   unfold pL;exact le_trans (List.length_filter_le _ _) (by simp)
  have key:=GW _ _ _ _ (Uw (E:=E) (fz:=fz) (Q:=Q) (nQ:=st) x L g _ p ops.size _ [] st u a _ θ (by simp) J (by simp) (Cl.none ops _) hp I (cN.refl _ _ _ _) h);have i:∀(j:Nat) (o:Oper) c,ops[j]?=some o->o.op≠ .defer c:=by
   intro j o c y;have G:ops.toList[j]?=some o:=by simpa using y
   exact oP (x o (mem_of_getElem? G)) c
  refine wpIn_mono (wpIn_region_any A (th C.ro i _ _ _ _ key)) λe U O w=>?_;cases e with
  |normal=>exact w
  |_=>exact w.elim
def Qa{r:List Nat}{id:Nat}{ops:Array Oper}{Q:Exit->St->UW->Prop}{p:jl}(G:E.P.follows .mixedOrders=true)(y:∀o∈ops.toList,bC C.n o=true)(J:∀o∈ops.toList,∀t,o.dst=some t->t∈r)
  (hp:tJ ops=some p) (x:Inv C a wa st u θ) (h:Wd E fz ops u (Q .normal) p st u):(Code.region id ops true).wpIn (Fw C.ro) 0 E.P (QW C fz r st Q) a wa:=by
 unfold tJ at hp;cases g:Region.noSelect ops with
 |false=>simp[g]at hp
 |true=>
  simp only[g,cond_true]at hp;have I:=x.drew;have key:=Ux (E:=E) (u0:=u) (fz:=fz) (Q:=Q) (nQ:=st) (Ah:=st) (θ0:=θ) y J g x.gS ops.size p _ st u a _ θ (Cl.none ops _) hp I (cN.refl _ _ _ _) (.inl ⟨Below.refl _ _,⟨rfl,λ_ _ _=>rfl,λ_ _ _ _ _=>rfl⟩⟩) h;have i:∀(j:Nat) (o:Oper) c,ops[j]?=some o->o.op≠ .defer c:=by
   intro j o c A;have H:ops.toList[j]?=some o:=by simpa using A
   exact oP (y o (mem_of_getElem? H)) c
  refine wpIn_mono (wpIn_region_any G (th C.ro i _ _ _ _ key)) λe O L w=>?_;cases e with
  |normal=>exact w
  |_=>exact w.elim
end
section
variable {E:Env} {C:Ctx}
def Ep{w w1:World}(g:yG w w1){b:Nat}{c:Array Value}{T:TypeId}(h:w.heap[b]?=some (.cells c T (0,0)))(hc:c.size≠0):w1.heap[b]?=some (.cells c T (0,0)):=by
 rcases g.block b (Array.getElem?_eq_some_iff.1 h).1 with e|e
 .rw[<- e,h]
 .rw[h]at e;simp only[db,Option.some.injEq,Obj.cells.injEq]at e;rw[e.1]at hc;exact absurd rfl hc
def Qb{fz:List Nat}{o:Oper}{st:St}{u:UW}{a:Act}{wa:World}{θ:Nat->Nat}{K:St->UW->Prop}{Q:Exit->Act->World->Prop}(H:bC C.n o=true)(w:Inv C a wa st u θ)(h:Xz E fz o st u K):sZ E C fz o st θ K Q a wa:=by
 unfold Xz at h;split at h
 .rename_i t x y t' O;cases hb:wC (ev st.σ x) (ev st.σ y)with
  |false=>rw[hb]at h;exact kt H w h
  |true=>
   rw[hb]at h;simp only[cond_true]at h;have hx:df C.n x=true:=lE H (by simp[O,Op.operands]);have hy:df C.n y=true:=lE H (by simp[O,Op.operands]);unfold KT at h;split at h
   .rename_i b j A g ex ey;split at h
    .rename_i e hu;obtain⟨G,h⟩:=aq h;obtain⟨⟨c,T,h1,Hx⟩,⟨c',T',h2,Ns⟩,h⟩:=h;have g1:=Ep w.below h1 Hx;have g2:=Ep w.below h2 Ns;have U:=bg w hx ex rfl;have Y:=bg w hy ey rfl;unfold sized at G;cases I:E.P.info? e with
     |none=>rw[I]at G;cases G
     |some i=>
      rw[I]at G;have Pc:i.size≠0:=by
       intro e0;simp only[e0]at G;cases G
      refine ba (r:=.bool (beq b A&&beq j g)) (wb:=wa) ?_ (aX H w rfl h);simp only[execOp,O];rw[U,Y,run_bind];have jg:(do eqGuard .eql t x y (.pointer (some ⟨b,j,none⟩)) (.pointer (some ⟨A,g,none⟩));binOp .eql t (.pointer (some ⟨b,j,none⟩)) (.pointer (some ⟨A,g,none⟩)):Sem Value).run E.P wa=.ok (.bool (beq b A&&beq j g)) wa:=by
       rw[run_bind,Jb x y wa (by simp) (by simp),andThen_ok];by_cases J:(⟨b,j,none⟩:Addr)=⟨A,g,none⟩
       .simp only[Addr.mk.injEq,and_true]at J;obtain⟨rfl,rfl⟩:=J;rw[run_eql_ptr_same wa _ hu I,Nat.beq_refl,Nat.beq_refl];rfl
       .rw[run_eql_ptr_other wa hu I Pc J g1 g2];have:(beq b A&&beq j g)=false:=by
         cases L:(beq b A&&beq j g)with
         |false=>rfl
         |true=>
          simp only[and_eq_true,beq_iff]at L;exact absurd (by rw[L.1,L.2]) J
        rw[this]
      rw[jg];rfl
    .exact h.elim
   .exact h.elim
 .exact kt H w h
def CB{fz ws:List Nat}{ops:Array Oper}{Q:Exit->St->UW->Prop}{nQ:St}(aJ:∀o∈ops.toList,bC C.n o=true)(Ge:∀o∈ops.toList,∀t,o.dst=some t->t∈ws):
  ∀(l:List Oper) (i:Nat),ops.toList.drop i=l->∀(st:St) (u:UW) (a:Act) (wa:World) (θ:Nat->Nat),Inv C a wa st u θ->cN C.n fz ws nQ st->Wl E fz ops (Q .normal) l st u->
   wpOpsIn (Fw C.ro) 0 E.P ops (QW C fz ws nQ Q) (range' i l.length) a wa
 |[],i,_,st,u,a,wa,θ,e,A,h=>⟨st,u,θ,e,A,h⟩
 |o::l,i,hd,st,u,a,wa,θ,e,A,h=>by
  have hi:ops.toList[i]?=some o:=by
   have:=congrArg (·[0]?) hd;simpa using this
  have fB:o∈ops.toList:=mem_of_getElem? hi;have hoi:ops[i]?=some o:=by simpa using hi
  have O:ops.toList.drop (i+1)=l:=by
   have:=congrArg (List.drop 1) hd;simpa[List.drop_drop,Nat.add_comm]using this
  have Y:=aJ o fB;have jD:∀{s s':St},cN C.n fz ws nQ s->cN C.n fz o.dst.toList s s'->cN C.n fz ws nQ s':=by
   intro s s' U h2;have:=U.trans h2;refine this.mono (λ_ h=>h) λx y=>?_;rw[mem_append]at y;rcases y with y|y
   .exact y
   .cases tZ:o.dst with
    |none=>simp[tZ]at y
    |some d=>simp only[tZ,Option.toList,mem_singleton]at y;exact Ge o fB x (by rw[tZ,y])
  have go:∀{s:St},Inv C a wa s u θ->cN C.n fz ws nQ s->(W1 E fz o s u (λcf H=>Wl E fz ops (Q .normal) l cf H)\/Xz E fz o s u (λcf H=>Wl E fz ops (Q .normal) l cf H))->o.wpIn (Fw C.ro) 0 E.P a wa (wpOpsIn (Fw C.ro) 0 E.P ops (QW C fz ws nQ Q) (range' (i+1) l.length)) (QW C fz ws nQ Q):=by
   intro s r G U;have:=U.elim (kt (Q:=QW C fz ws nQ Q) Y r) (Qb (Q:=QW C fz ws nQ Q) Y r);refine vg C.ro (oP Y) (nK (λa' H hp=>?_) this);obtain⟨cf,u',θ',dP,kF,_,_,hW⟩:=hp;exact CB aJ Ge l (i+1) O cf u' a' H θ' dP (jD G kF) hW
  have skip:∀{s:St},Inv C a wa s u θ->cN C.n fz ws nQ s->Wl E fz ops (Q .normal) l (fin o s undef) u->(∀f,o.about E.P wa a.eval=some f->(Fw C.ro).fn f)/\wpOpsIn (Fw C.ro) 0 E.P ops (QW C fz ws nQ Q) (range' (i+1) l.length) (a.put o.dst undef) wa:=by
   intro s r G U;exact⟨λ_ _=>trivial,CB aJ Ge l (i+1) O _ u _ wa θ (r.cW o.dst (eI Y) rfl) (jD G (cN.fin s o.dst (eI Y) e.jf undef)) U⟩
  simp only[length_cons,List.range'_succ,wpOpsIn,hoi];simp only[Wl]at h;cases L:o.guard with
  |none=>
   simp only[L]at h;have I:Region.wanted o (yielded ops a.tmps)=true:=by simp[Region.wanted,L]
   rw[if_pos I];exact go e A (.inr h)
  |some jb=>
   obtain⟨j,b⟩:=jb;simp only[L]at h;cases w:pT ops j with
   |none=>simp only[w]at h
   |some g=>
    simp only[w]at h;have J:g<C.n:=by
     unfold pT at w;cases hj:ops[j]? with
     |none=>simp[hj]at w
     |some oj=>
      simp only[hj,Option.bind_some]at w
      exact eI (aJ oj (by have:ops.toList[j]?=some oj:=by simpa using hj
                          exact mem_of_getElem? this)) g w
    have Qk:yielded ops a.tmps j=match a.tmps.getD g undef with| .bool x=>some x|_=>none:=by
     unfold yielded;unfold pT at w;rw[w,Option.bind_some,getD_some e.size J];cases a.tmps.getD g undef<;>rfl
    have vT:=e.iL g J;split at h
    .rename_i c hc;rw[hc,iZ rfl]at vT;rw[vT]at Qk;have I:Region.wanted o (yielded ops a.tmps)=(c == b):=by
      simp only[Region.wanted,L,Qk];cases c<;>cases b<;>rfl
     rw[I];cases c with
     |true=>
      simp only[ab]at h;rw[vi hc]at h;cases b with
      |true=>simp only at h;exact go e A (.inl h)
      |false=>simp only at h;exact skip e A h
     |false=>
      simp only[ab]at h;rw[vi hc]at h;cases b with
      |true=>simp only at h;exact skip e A h
      |false=>simp only at h;exact go e A (.inl h)
    .rename_i vs hc;rw[hc,iZ rfl]at vT;rw[vT]at Qk;have I:Region.wanted o (yielded ops a.tmps)=false:=by simp[Region.wanted,L,Qk]
     rw[I];exact skip e A h
    .exact h.elim
def gn(n:Nat):Code->Bool
 | .region _ ops _=>ops.toList.all (bC n)
 | .seq a b=>gn n a&&gn n b
 | .cond c a b=>df n c&&gn n a&&gn n b
 | .block _ a=>gn n a
 | .loop a=>gn n a
 | .rangeFunc f ps a b=>df n f&&ps.toList.all (λp=>blt p n)&&gn n a&&gn n b
 |_=>true
def least{p:Nat->Prop}(h:∃n,p n):∃n,p n/\∀m,p m->n<=m:=by
 obtain⟨n,g⟩:=h;induction n using Nat.strongRecOn with
 |_ n e=>
  by_cases h:∃m,m<n/\p m
  .obtain⟨m,r,j⟩:=h;exact e m r j
  .exact⟨n,g,λm i=>Nat.le_of_not_lt λw=>h ⟨m,w,i⟩⟩
def Qz{F:Fence}{G:Nat}{P:Program}{c:Code}{Q:Exit->Act->World->Prop}(I:Nat->Act->World->Prop)
  (round:∀n a w,I n a w->c.wpIn F G P (Exit.then (λj w'=>∃m,m<n/\I m j w') Q) a w):∀(n:Nat) (a:Act) (w:World),I n a w->(Code.loop c).wpIn F G P Q a w:=by
 classical
 intro n a w O;let g:Act->World->Nat:=λa w=>if h:∃n,I n a w then Classical.choose (least h)else 0;refine wpIn_loop (λa w=>∃n,I n a w) g ⟨n,O⟩ λa w y=>?_;have J:=Classical.choose_spec (least y);have r:g a w=Classical.choose (least y):=by simp only[g,dif_pos y]
 refine wpIn_mono (round _ a w J.1) λe j w' H=>?_;cases e with
 |normal=>
  obtain⟨m,L,A⟩:=H;have x:∃n,I n j w':=⟨m,A⟩;have U:=Classical.choose_spec (least x);have i:g j w'=Classical.choose (least x):=by simp only[g,dif_pos x]
  exact⟨⟨m,A⟩,by rw[r,i];exact Nat.lt_of_le_of_lt (U.2 m A) L⟩
 |_=>exact H
def FH(n:Nat):range' 0 n=List.range n:=(List.range_eq_range').symm
def Sound(E:Env)(c:Code):Prop:=∀(C:Ctx),gn C.n c=true->∀(fz:List Nat) (Q:Exit->St->UW->Prop) (st:St) (u:UW) (a:Act) (wa:World) (θ:Nat->Nat),Inv C a wa st u θ->W E fz c Q st u->
    c.wpIn (Fw C.ro) 0 E.P (QW C fz (writes c) st Q) a wa
def Inv.Uu{a:Act}{wa:World}{st:St}{u:UW}{θ:Nat->Nat}(e:Inv C a wa st u θ)(o:Obj)(i:o.isCells=false):Inv C a (wa.alloc o) st u θ/\Hid u (wa.alloc o) wa.heap.size o:=by
 have h:Below wa.heap.size wa (wa.alloc o):=(Below.refl _ _).alloc (le_refl _) o;refine⟨e.world (u':=u) (F:=λ_=>False) (λ_ j=>j.elim) (Below.QF h (le_refl _) _) ?_ (Mod.refl _ _) (λb x _ w=>by omega) (λb g=>lt_of_lt_of_le (e.pY b g) h.size) (λ_ g _=>g),World.alloc_heap_new wa o,i,λhp=>?_,λr=>?_⟩
 .refine⟨e.below.os,e.below.tape,e.below.output,le_trans e.below.size h.size,λb g=>?_⟩;rw[h.block b (lt_of_lt_of_le g e.below.size)];exact e.below.block b g
 .have:=e.pY _ hp;omega
 .have:=e.below.size;omega
def a_{w:World}{l b:Nat}{o:Obj}(h:b≠l):(w.putObj l o).heap[b]?=w.heap[b]?:=World.putObj_heap_other h
def Inv.forget{a:Act}{wa:World}{st:St}{u:UW}{θ:Nat->Nat}{l:Nat}{o O o2:Obj}(g:Inv C a wa st u θ)(hl:C.w1.heap.size<=l)(U:u.heap[l]?=some o)(ho:Lg o=true)(H:wa.heap[l]?=some O)(j:Lg O=true):
  Inv C a (wa.putObj l o2) st ⟨u.toWorld.putObj l db,λb=>u.gk b/\b≠l⟩ θ:=by
 have w:l<u.heap.size:=(Array.getElem?_eq_some_iff.1 U).1;have Wv:l<wa.heap.size:=(Array.getElem?_eq_some_iff.1 H).1;have Kt:=g.Kt;have cu:∀{b:Nat} {G:Obj},b≠l->Hid u wa b G->Hid ⟨u.toWorld.putObj l db,λb=>u.gk b/\b≠l⟩ (wa.putObj l o2) b G:=λ{b G} A h=>
  ⟨(a_ A).trans h.at_,h.other,λhp=>h.gk hp.1,λy=>(a_ A).trans (h.mask (by simpa using y))⟩
 refine⟨g.size,g.jf,⟨λd hd=>?_,g.defers.nodup⟩,λl0 r e=>?_,g.iL,?_,?_,g.inj,g.jw,g.gS,?_,?_,?_,?_,g.Kt,?_,g.F0⟩
 .obtain⟨r,e,hr,h⟩:=g.defers.each d hd;refine⟨r,e,hr,cu ?_ h⟩;rintro rfl;have:=h.at_;rw[H]at this;cases this;cases j
 .have h:=g.round l0 r e;refine cu ?_ h;rintro rfl;have:=h.mask w;rw[U]at this;cases this;cases ho
 .refine⟨g.below.os,g.below.tape,g.below.output,by simpa using g.below.size,λb i=>?_⟩;by_cases e:b=l
  .subst e;exact .inr (World.putObj_heap_same w)
  .have:=g.below.block b (by simpa using i);show(u.toWorld.putObj l db).heap[b]?=_\/(u.toWorld.putObj l db).heap[b]?=_;rw[a_ e,a_ e];exact this
 .intro k m hk;obtain⟨Y,c,T,x,L,J,h4,h5,h6⟩:=g.boxes k m hk;have A:θ k≠l:=by
   intro e;rw[e,H]at x;cases x;cases j
  exact⟨Y,c,T,(a_ A).trans x,L,J,λhp=>h4 hp.1,h5,λy=>(a_ A).trans (h6 (by simpa using y))⟩
 .intro b i;simpa using g.pY b i.1
 .exact⟨g.mod.os,g.mod.tape,g.mod.output,by simpa using g.mod.size,λb i I=>(a_ (by omega)).trans (g.mod.cu b i I)⟩
 .exact λb i y=>g.qE b i.1 y
 .exact⟨g.umod.os,g.umod.tape,g.umod.output,by simpa using g.umod.size,λb i I=>(a_ (by omega)).trans (g.umod.cu b i I)⟩
 .intro b x L J;exact(a_ (by omega)).trans (g.BU b x L (by simpa using J))
def Inv.ahi{a:Act}{wa:World}{st:St}{u:UW}{θ:Nat->Nat}{l:Nat}{r:Loop}(g:Inv C a wa st u θ)(Yi:C.ro=some (l,r))(i:Loop):
  Inv {C with w1:=C.w1.putObj l (.loop i),ro:=some (l,i)} a (wa.putObj l (.loop i)) st u θ:=by
 have w:=g.round l r Yi;have J:l<wa.heap.size:=(Array.getElem?_eq_some_iff.1 w.at_).1;have cu:∀{b:Nat} {y:Obj},b≠l->Hid u wa b y->Hid u (wa.putObj l (.loop i)) b y:=λ{b y} H j=>⟨(a_ H).trans j.at_,j.other,j.gk,j.mask⟩;refine⟨g.size,g.jf,⟨λd Y=>?_,g.defers.nodup⟩,λl0 I e=>?_,g.iL,?_,?_,g.inj,g.jw,g.gS,?_,?_,?_,g.umod,by simpa using g.Kt,?_,g.F0⟩
 .obtain⟨I,e,O,j⟩:=g.defers.each d Y;refine⟨I,e,by simpa using O,cu ?_ j⟩;rintro rfl;have:=j.at_;rw[w.at_]at this;cases this
 .simp only[Option.some.injEq,Prod.mk.injEq]at e;obtain⟨rfl,rfl⟩:=e;exact⟨World.putObj_heap_same J,rfl,w.gk,w.mask⟩
 .refine⟨g.below.os,g.below.tape,g.below.output,by simpa using g.below.size,λb h=>?_⟩;by_cases e:b=l
  .subst e;exact .inr (w.mask h)
  .rw[a_ e];exact g.below.block b h
 .intro k m U;obtain⟨L,c,T,x,G,A,h4,h5,h6⟩:=g.boxes k m U;have H:θ k≠l:=by
   intro e;rw[e,w.at_]at x;cases x
  exact⟨L,c,T,(a_ H).trans x,G,A,h4,by simpa using h5,h6⟩
 .intro b h;simpa using g.pY b h
 .refine⟨g.mod.os,g.mod.tape,g.mod.output,by simpa using g.mod.size,λb h hF=>?_⟩;by_cases e:b=l
  .subst e;show(wa.putObj b (.loop i)).heap[b]?=(C.w1.putObj b (.loop i)).heap[b]?;rw[World.putObj_heap_same J,World.putObj_heap_same (by simpa using h)]
  .show(wa.putObj l (.loop i)).heap[b]?=(C.w1.putObj l (.loop i)).heap[b]?;rw[a_ e,a_ e];exact g.mod.cu b (by simpa using h) hF
 .exact λb h bK=>g.qE b h (by simpa using bK)
 .intro b x G A;exact g.BU b x (by simpa using G) A
def zb(r:Loop)(p:Option Code):Obj:=.loop {r with state:=if p.isNone then .ready else .done,pending:=p}
def Cf{P:Program}:∀{ts:List TypeId} {F:List Value->Prop},LF P ts F->∃e,e.length=ts.length/\(∀v∈e,plain v=true)/\F e
 |[],_,h=>⟨[],rfl,by simp,h⟩
 |t::ts,F,h=>by
  obtain⟨v,hp,h⟩:=Cg h
  obtain⟨e,i,g,h⟩:=Cf h;exact⟨v::e,by simp[i],by simpa using⟨hp,g⟩,h⟩
def Zm{θ e:Nat->Nat}{σ:Fr}{t:Nat}{r:Value}(h:R θ (σ t) r):R e (zJ σ t) r:=by
 unfold zJ;split
 .trivial
 .rename_i v i;have hp:plain (σ t)=true:=by
   cases g:σ t<;>first|rfl|(exact absurd g (i _ _ _))
  rw[iZ hp]at h |-;exact h
def OA{σ:Fr}{t k o:Nat}:zJ σ t≠dU k o:=by
 unfold zJ;split
 .intro h;cases h
 .rename_i v e;intro h;exact e _ _ _ h
def yX{θ:Nat->Nat}{n:Nat}:∀(ps:List Nat) (g:List Value) (σ:Fr) (i:Array Value),ps.length=g.length->i.size=n->(∀p∈ps,p<n)->(∀v∈g,plain v=true)->(∀t,t<n->R θ (σ t) (i.getD t undef))->(∀t k o,σ t≠dU k o)->
  ((ps.zip g).foldl (λt (x:Nat×Value)=>t.setIfInBounds x.1 x.2) i).size=n/\(∀t,t<n->R θ (vp σ ps g t) (((ps.zip g).foldl (λt (x:Nat×Value)=>t.setIfInBounds x.1 x.2) i).getD t undef))/\∀t k o,vp σ ps g t≠dU k o
 |[],[],σ,i,_,r,_,_,h,y=>⟨r,h,y⟩
 |p::ps,v::g,σ,i,j,r,A,I,h,y=>by
  have hp:p<i.size:=by rw[r];exact A p (by simp)
  have G:=I v (by simp);simp only[List.zip_cons_cons,List.foldl_cons,vp];refine yX ps g (jd σ p v) (i.setIfInBounds p v) (by simpa using j) (by simpa using r) (λq O=>A q (by simp[O])) (λw J=>I w (by simp[J])) (λt L=>?_) (λt k o e=>?_)
  .rw[wc _ _ _ _ hp];by_cases e:t=p
   .subst e;rw[if_pos rfl,fj];exact po G
   .rw[if_neg e,cw _ _ e];exact h t L
  .by_cases H:t=p
   .subst H;rw[fj]at e;exact kg G k o e
   .rw[cw _ _ H]at e;exact y t k o e
 |[],_::_,_,_,j,_,_,_,_,_=>by simp at j
 |_::_,[],_,_,j,_,_,_,_,_=>by simp at j
def Pr(ps:Array Nat)(e:List Value)(g:Array Value):
  (ps.zip e.toArray).foldl (λt (p,v)=>t.setIfInBounds p v) g=(ps.toList.zip e).foldl (λt (x:Nat×Value)=>t.setIfInBounds x.1 x.2) g:=by
 rw[<- Array.foldl_toList,Array.toList_zip]
def HB{E:Env}{n:Nat}{x y:Code}{ps:Array Nat}{ts:List TypeId}{σ:Fr}{θ:Nat->Nat}{l:Nat}{r:Loop}(IE:Sound E x)(ID:Sound E y)(okx:gn n x=true)(oky:gn n y=true)
  (hn:n<=65536) (ye:∀p∈ps.toList,p<n) (zK:ts.length=ps.toList.length) (fK:r.tmps.size=n) (hsl:∀t,t<n->R θ (σ t) (r.tmps.getD t undef)) (Y:r.params=ps) (hrx:r.assign=x) (hry:r.body=y)
  (O:List Value) (w1:World) (F:Nat->Prop) (RR:Option Code->UW->Prop) (hl:w1.heap[l]?=some (zb r none)) (hF:∀b,F b->b<w1.heap.size/\b≠l)
  (h:LF E.P ts λqn=>O=qn/\W E [] x (RM λeV u1=>W E [] y (KN RR) eV u1) ⟨vp (zJ σ) ps.toList qn,[]⟩ ⟨w1.putObj l db,F⟩):
  Me E.P (.func (.yield l) #[] #[]) O w1 (λb=>F b\/b=l) λv lo w2=>∃p gk H,v=.bool p.isNone/\w2=H.putObj l (zb r p)/\H.heap[l]?=some db/\(∀b,gk b->F b\/lo<=b)/\RR p ⟨H,gk⟩:=by
 intro I G;obtain⟨qn,hlen,nH,rfl,hW⟩:=Cf h;have Wv:l<w1.heap.size:=(Array.getElem?_eq_some_iff.1 hl).1;have zM:I.heap[l]?=some (zb r none):=by
  rcases G.block l Wv with e|e
  .rw[<- e];exact hl
  .rw[hl]at e;cases e
 refine⟨rfl,rfl,{r with state:=.ready,pending:=none},zM,by simp only[Y];rw[hlen,zK];simp,roundIn_of_wpIn (F:=Fence.wide) trivial ?_⟩;simp only[Y,hrx,hry];rw[Pr];obtain⟨z1,z2,z3⟩:=yX (θ:=λ_=>0) ps.toList O (zJ σ) r.tmps (by omega) fK ye nH (λt ht=>Zm (hsl t ht)) (λt k o=>OA);have kP:Inv ⟨n,w1.putObj l db,I,F,some (l,{r with state:=.ready,pending:=none})⟩ {tmps:=(ps.toList.zip O).foldl (λt (x:Nat×Value)=>t.setIfInBounds x.1 x.2) r.tmps,defers:=[]} I ⟨vp (zJ σ) ps.toList O,[]⟩ ⟨w1.putObj l db,F⟩ (λ_=>0):=by
  refine⟨z1,hn,⟨by simp,List.nodup_nil⟩,λl0 r0 e=>?_,z2,?_,by simp,by simp,λt _ k o e=>absurd e (z3 t k o),by simp,λb w=>lt_of_lt_of_le (hF b w).1 G.size,Mod.refl _ _,λb w _=>w,Mod.refl _ _,by simpa using G.size,λb h1 _ h3=>absurd h3 (not_lt.2 h1),λb w=>by simpa using(hF b w).1⟩
  .simp only[Option.some.injEq,Prod.mk.injEq]at e;obtain⟨rfl,rfl⟩:=e;exact⟨zM,rfl,λhp=>(hF _ hp).2 rfl,λ_=>World.putObj_heap_same Wv⟩
  .refine⟨G.os,G.tape,G.output,by simpa using G.size,λb w=>?_⟩;by_cases e:b=l
   .subst e;exact .inr (World.putObj_heap_same Wv)
   .show(w1.putObj l db).heap[b]?=_\/(w1.putObj l db).heap[b]?=_;rw[a_ e];exact G.block b (by simpa using w)
 refine wpIn_mono (IE ⟨n,w1.putObj l db,I,F,some (l,{r with state:=.ready,pending:=none})⟩ okx [] _ _ _ _ _ _ kP hW) λe a2 wa2 j=>?_;obtain⟨Vp,u2,θ2,xz,_,j⟩:=j;cases e with
 |normal=>
  refine⟨_,run_beginRound (xz.round l _ rfl).at_ rfl,?_⟩;have Tc:=xz.ahi rfl {r with state:=.busy,pending:=none};refine wpIn_mono (ID _ oky [] _ _ _ _ _ _ Tc j) λe a3 J j=>?_;obtain⟨st3,U,θ3,g,_,j⟩:=j;have hh:=g.round l _ rfl;have air:l<J.heap.size:=(Array.getElem?_eq_some_iff.1 hh.at_).1;have Pb:w1.heap.size<=U.heap.size:=by simpa using g.umod.size
  have done:∀(p:Option Code),RR p U->∃v w',(Instr.endRound l p).run E.P J=.ok v w'/\∃v' L,Ending.returned v=.returned v'/\Out (λb=>F b\/b=l) w1 I L w'/\∃p' gk H,v'=.bool p'.isNone/\L=H.putObj l (zb r p')/\H.heap[l]?=some db/\(∀b,gk b->F b\/I.heap.size<=b)/\RR p' ⟨H,gk⟩:=by
   intro p hR;refine⟨_,_,run_endRound p hh.at_,_,U.toWorld.putObj l (zb r p),rfl,⟨?_,?_,?_,?_⟩,p,U.gk,U.toWorld,rfl,rfl,hh.mask (by omega),λb w=>?_,hR⟩
   .refine⟨g.mod.os,g.mod.tape,g.mod.output,by simpa using g.mod.size,λb w A=>?_⟩;have aW:b≠l:=λe=>A (.inr e);rw[a_ aW,g.mod.cu b (by simpa using w) (λhf=>A (.inl hf))];exact a_ aW
   .refine⟨g.below.os,g.below.tape,g.below.output,by simpa using g.below.size,λb w=>?_⟩;by_cases e:b=l
    .subst e;left;rw[World.putObj_heap_same (by simpa using w),World.putObj_heap_same air];rfl
    .rw[a_ e,a_ e];exact g.below.block b (by simpa using w)
   .refine⟨g.umod.os,g.umod.tape,g.umod.output,by simpa using Pb,λb w A=>?_⟩;have aW:b≠l:=λe=>A (.inr e);rw[a_ aW,g.umod.cu b (by simpa using w) (λhf=>A (.inl hf))];exact a_ aW
   .intro b h1 h2 h3;rw[a_ (by omega)];exact g.BU b (by simpa using h1) (by simpa using h2) (by simpa using h3)
   .by_cases bK:b<I.heap.size
    .exact .inl (g.qE b w (by simpa using bK))
    .exact .inr (by omega)
  cases e with
  |normal=>exact done none j
  |ret=>exact done (some .ret) j
  |exit i=>exact done (some (.exit i)) j
  |goto i=>exact j.elim
  |panic c=>exact j.elim
  |outgrown=>exact j.elim
 |exit i=>exact j.elim
 |goto i=>exact j.elim
 |ret=>exact j.elim
 |panic c=>exact j.elim
 |outgrown=>exact j.elim
def BD{Q:Nat->Prop}{i:Nat}:∀{l:List Nat},Ix (l.map λj=>(j,Q j)) i->Q i
 |[],h=>h.elim
 |j::l,h=>by
  simp only[map_cons,Ix,cond_eq_ite,beq_iff]at h
  split at h
  .rename_i e;subst e;exact h
  .exact BD h
theorem Ih{E:Env}{f:Operand}{ps:Array Nat}{x y:Code}(IE:Sound E x)(ID:Sound E y):Sound E (.rangeFunc f ps x y):=by
 intro C eH fz Q st u a wa θ hI h;simp only[gn,and_eq_true,all_eq_true]at eH;obtain⟨⟨⟨hof,ye⟩,hox⟩,hoy⟩:=eH;simp only[W]at h;cases zK:look E.sa (ps.toList.headD 0)with
 |none=>simp only[zK]at h
 |some ts=>
  simp only[zK]at h;obtain⟨hlen,⟨g,fa,fb,hfv⟩,h⟩:=aq h;have hlen:=beq_iff.1 hlen;have hef:a.eval f=.func (.func g) fa fb:=bg hI hof hfv rfl;refine wpIn_rangeFunc λfn _=>?_;obtain⟨D,l,mark,pre,aeH,hle,hIp⟩:∃(D l:Nat) (mark:List Deferred) (pre:World),(Instr.enterLoop fn a.tmps ps x y (Fw C.ro).round).run E.P wa=.ok (l,mark) (pre.alloc (.loop {state:=.ready,pending:=none,fn,tmps:=a.tmps,params:=ps,assign:=x,body:=y,defers:=D}))/\
    l=pre.heap.size/\Inv C {a with defers:=mark++a.defers} pre st u θ:=by
   cases Yi:C.ro with
   |none=>
    obtain⟨kP,hh⟩:=hI.Uu (.deferred (some [])) rfl;refine⟨wa.heap.size,wa.heap.size+1,_,wa.alloc (.deferred (some [])),run_enterLoop_outer fn a.tmps ps x y,by simp,⟨kP.size,kP.jf,⟨λd hd=>?_,?_⟩,kP.round,kP.iL,kP.below,kP.boxes,kP.inj,kP.jw,kP.gS,kP.pY,kP.mod,kP.qE,kP.umod,kP.Kt,kP.BU,kP.F0⟩⟩
    .simp only[List.cons_append,List.nil_append,mem_cons]at hd;rcases hd with rfl|hd
     .exact⟨wa.heap.size,rfl,hI.mod.size,hh⟩
     .exact kP.defers.each d hd
    .simp only[List.cons_append,List.nil_append];refine nodup_cons.2 ⟨λhd=>?_,kP.defers.nodup⟩;obtain⟨r,e,_,hr⟩:=hI.defers.each _ hd;simp only[Deferred.mk.injEq,Target.collected.injEq]at e;have:=(Array.getElem?_eq_some_iff.1 hr.at_).1;omega
   |some lr=>
    obtain⟨l0,r0⟩:=lr;exact⟨r0.defers,wa.heap.size,[],wa,run_enterLoop_inner (hI.round l0 r0 Yi).at_ fn a.tmps ps x y,rfl,hI⟩
  subst hle;obtain⟨r,hr⟩:∃r:Loop,r={state:=.ready,pending:=none,fn,tmps:=a.tmps,params:=ps,assign:=x,body:=y,defers:=D}:=⟨_,rfl⟩;rw[<- hr]at aeH;obtain⟨w',aeS,xz⟩:=hIp.born (.loop r);have hrn:zb r none=.loop r:=by rw[hr];rfl
  have dc:=h pre.heap.size (zb r) w' (λp=>rfl) (by rw[hrn];exact aeS) (λvs w1 F RR hl hF hb=>
   HB (θ:=θ) IE ID hox hoy hI.jf (λp hp=>iY.1 (ye p hp)) hlen (by rw[hr];exact hI.size) (by rw[hr];exact hI.iL) (by rw[hr]) (by rw[hr]) (by rw[hr]) vs w1 F RR hl hF hb)
  obtain⟨F,hF,dc⟩:=jP.1 dc;have hc:=dc _ xz.below;rw[hfv]at hc;obtain⟨ij,hc⟩:=hc;refine⟨pre.heap.size,mark,pre.alloc (.loop r),{target:=.fn (.func g) fb,args:=fa++ #[.func (.yield pre.heap.size) #[] #[]]},pre.alloc (.loop r),g,fa++ #[.func (.yield pre.heap.size) #[] #[]]++fb,pre.alloc (.loop r),aeH,?_,λ_ _=>trivial,?_,λh=>(by cases h),?_⟩
  .simp[resolve,hef,Deferred.ofValue];rfl
  .simp only[invoke];exact oK ij
  .have Yx:(fa++ #[Value.func (.yield pre.heap.size) #[] #[]]++fb)=(fa.toList++[Value.func (.yield pre.heap.size) #[] #[]]++fb.toList).toArray:=by
    apply toList_inj.1;simp
   rw[Yx];refine callsIn_wide.2 (hc.mono λe wr hp=>?_);obtain⟨v,w2,rfl,fP,p,Wr,hK⟩:=hp;have Tc:=xz.ret hF fP;have sS:wr.heap[pre.heap.size]?=some (zb r p):=by
    rcases Tc.below.block _ (Array.getElem?_eq_some_iff.1 Wr).1 with e|e
    .rw[<- e];exact Wr
    .rw[Wr]at e;cases e
   refine⟨p,_,run_endLoop sS (by cases p<;>simp),?_⟩;have CW:=Tc.forget (o2:=.loop {r with state:=.exhausted,pending:=p}) hIp.mod.size Wr rfl sS rfl;have hP:cN C.n fz (writes (.rangeFunc f ps x y)) st st:=cN.refl _ _ _ _;unfold PK at hK;split at hK
   .exact⟨st,_,θ,CW,hP,hK⟩
   .refine wpIn_ret ⟨st,_,θ,CW,hP,?_⟩;exact(aq hK).2
   .refine wpIn_exit ⟨st,_,θ,CW,hP,?_⟩;exact BD (Q:=λi=>Q (.exit i) st _) hK
   .exact hK.elim
def Xy(c:Code):Sound E c:=by
 induction c with
 |skip=>intro C O fz Q st u a wa θ A h;exact wpIn_skip ⟨st,u,θ,A,cN.refl _ _ _ _,h⟩
 |ret=>intro C O fz Q st u a wa θ A h;exact wpIn_ret ⟨st,u,θ,A,cN.refl _ _ _ _,h⟩
 |exit i=>intro C O fz Q st u a wa θ A h;exact wpIn_exit ⟨st,u,θ,A,cN.refl _ _ _ _,h⟩
 |region id ops draw=>
  intro C O fz Q st u a wa θ A h;simp only[gn,all_eq_true]at O;cases draw with
  |true=>
   simp only[W]at h;obtain⟨hm,h⟩:=aq h;cases hiq:isQ E.fA id with
   |true=>
    rw[hiq]at h;simp only[cond_true]at h;cases hp:oT ops with
    |none=>simp only[hp]at h
    |some p=>
     simp only[hp]at h;exact P_ hm O (λo ho t ht=>by simp only[writes,mem_filterMap];exact⟨o,ho,ht⟩) hp A h
   |false=>
   rw[hiq]at h;simp only[cond_false]at h;cases hp:tJ ops with
   |none=>simp only[hp]at h
   |some p=>
    simp only[hp]at h;exact Qa hm O (λo ho t ht=>by simp only[writes,mem_filterMap];exact⟨o,ho,ht⟩) hp A h
  |false=>
   simp only[W]at h;refine wpIn_region ?_;have:=CB (E:=E) (Q:=Q) (nQ:=st) (ws:=writes (.region id ops false)) O (λo ho t ht=>by simp only[writes,mem_filterMap];exact⟨o,ho,ht⟩) ops.toList 0 rfl st u a wa θ A (cN.refl _ _ _ _) h;rw[Array.length_toList,FH]at this;exact this
 |seq x y IE ID=>
  intro C O fz Q st u a wa θ A h;simp only[gn,and_eq_true]at O;simp only[W]at h;refine wpIn_seq ?_;split at h
  .refine wpIn_mono (IE C O.1 fz _ st u a wa θ A h) λe a' HD g=>?_;obtain⟨L,w,r,G,H,g⟩:=g;cases e with
   |normal=>
    refine wpIn_mono (ID C O.2 fz Q L w a' HD r G g) λe a'' acO g=>?_;obtain⟨Zg,Va,Y,aaK,Ly,g⟩:=g;exact⟨Zg,Va,Y,aaK,H.trans Ly,g⟩
   |exit i=>exact⟨L,w,r,G,H.mono (λ_ h=>h) (λ_ h=>mem_append_left _ h),g⟩
   |goto i=>exact⟨L,w,r,G,H.mono (λ_ h=>h) (λ_ h=>mem_append_left _ h),g⟩
   |ret=>exact⟨L,w,r,G,H.mono (λ_ h=>h) (λ_ h=>mem_append_left _ h),g⟩
   |panic i=>exact⟨L,w,r,G,H.mono (λ_ h=>h) (λ_ h=>mem_append_left _ h),g⟩
   |outgrown=>exact⟨L,w,r,G,H.mono (λ_ h=>h) (λ_ h=>mem_append_left _ h),g⟩
  .rename_i cut _;obtain⟨hl,J,hA,hB⟩:=aq h;have Db:∀{s:St},cN C.n (freeze fz st.D cut) (writes x) st s->cN C.n fz (writes x++writes y) st s:=λhp=>
    hp.mono (λz hz=>mem_append_left _ hz) (λz hz=>mem_append_left _ hz)
   refine wpIn_mono (IE C O.1 (freeze fz st.D cut) _ st u a wa θ A hA) λe a' HD g=>?_;obtain⟨L,w,r,G,H,g⟩:=g;cases e with
   |normal=>
    simp only[sJ,Vc]at g;obtain⟨hs,g⟩:=aq g;cases WE:gd L cut.live with
    |none=>simp only[WE]at g
    |some s=>
     simp only[WE]at g;obtain⟨hIm,hPm⟩:=Lc A G H hl hs WE;refine wpIn_mono (ID C O.2 fz Q _ w a' HD r hIm (hB s w g)) λe a'' acO g=>?_;obtain⟨Zg,Va,Y,aaK,Ly,g⟩:=g;exact⟨Zg,Va,Y,aaK,hPm.trans Ly,g⟩
   |exit i=>exact⟨L,w,r,G,Db H,g⟩
   |goto i=>exact⟨L,w,r,G,Db H,g⟩
   |ret=>exact⟨L,w,r,G,Db H,g⟩
   |panic i=>exact⟨L,w,r,G,Db H,g⟩
   |outgrown=>exact⟨L,w,r,G,Db H,g⟩
 |cond c x y IE ID=>
  intro C O fz Q st u a wa θ A h;simp only[gn,and_eq_true]at O;obtain⟨⟨hc,hx⟩,hy⟩:=O;simp only[W]at h;split at h
  .rename_i t ht;refine wpIn_cond (bg A hc ht rfl) ?_;cases t with
   |true=>
    refine wpIn_mono (IE C hx fz Q st u a wa θ A h) λe a' HD g=>?_;obtain⟨L,w,r,G,H,g⟩:=g;exact⟨L,w,r,G,H.mono (λ_ h=>h) (λ_ h=>mem_append_left _ h),g⟩
   |false=>
    refine wpIn_mono (ID C hy fz Q st u a wa θ A h) λe a' HD g=>?_;obtain⟨L,w,r,G,H,g⟩:=g;exact⟨L,w,r,G,H.mono (λ_ h=>h) (λ_ h=>List.mem_append_right _ h),g⟩
  .exact h.elim
 |block id x ih=>
  intro C O fz Q st u a wa θ A h;simp only[W]at h;refine wpIn_block (wpIn_mono (ih C O fz _ st u a wa θ A h) λe a' HD g=>?_);obtain⟨L,w,r,G,H,g⟩:=g;cases e with
  |exit i=>
   simp only[yA,cond_eq_ite,beq_iff]at g;simp only[Exit.inBlock];split at g
   .rename_i e;rw[if_pos e];exact⟨L,w,r,G,H,g⟩
   .rename_i e;rw[if_neg e];exact⟨L,w,r,G,H,g⟩
  |normal=>exact⟨L,w,r,G,H,g⟩
  |goto i=>exact⟨L,w,r,G,H,g⟩
  |ret=>exact⟨L,w,r,G,H,g⟩
  |panic i=>exact⟨L,w,r,G,H,g⟩
  |outgrown=>exact⟨L,w,r,G,H,g⟩
 |loop x ih=>
  intro C O fz Q st u a wa θ A h;simp only[W]at h;split at h
  .exact h.elim
  .rename_i cut _;obtain⟨hl,h⟩:=aq h;simp only[Vc]at h;obtain⟨hs,h⟩:=aq h;cases WE:gd st cut.live with
   |none=>simp only[WE]at h
   |some s0=>
    simp only[WE]at h;obtain⟨I,⟨n0,hI0⟩,Ll⟩:=h;have hP0:cN C.n (freeze fz st.D cut) (writes x) st st:=cN.refl _ _ _ _;obtain⟨hIm,hPm⟩:=Lc A A hP0 hl hs WE;refine Qz (λn a' HD=>∃s w r,Inv C a' HD (mix st (writes x) cut s) w r/\I n s w/\cN C.n fz (writes x) st (mix st (writes x) cut s)) ?_ n0 a wa ⟨s0,u,θ,hIm,hI0,hPm⟩;intro n a' HD hh;obtain⟨s,w,r,G,hIs,hPs⟩:=hh;have hb:=Ll n s w hIs;refine wpIn_mono (ih C O _ _ _ w a' HD r G hb) λe a'' acO g=>?_;obtain⟨Vp,u2,U,xz,hP2,g⟩:=g;have S_:cN C.n fz (writes x) st Vp:=by
     have:=hPs.trans (hP2.mono (fz':=fz) (λz hz=>mem_append_left _ hz) (λz hz=>hz));exact this.mono (λ_ h=>h) (λz hz=>by rw[mem_append]at hz;exact hz.elim id id)
    cases e with
    |normal=>
     simp only[sJ,Vc]at g;obtain⟨Ao,g⟩:=aq g;cases aaw:gd Vp cut.live with
     |none=>simp only[aaw]at g
     |some s2=>
      simp only[aaw]at g;have WG:cN C.n (freeze fz st.D cut) (writes x) st Vp:=by
       have h1:cN C.n (freeze fz st.D cut) (writes x) st (mix st (writes x) cut s):=⟨hPs.slot,hPs.D,λk hk m hm j hj=>?_⟩
       .have:=h1.trans hP2;exact this.mono (λ_ h=>h) (λz hz=>by rw[mem_append]at hz;exact hz.elim id id)
       .exact(VX A hl (writes x) s) k hk m hm j hj
      obtain⟨ajd,ai9⟩:=Lc A xz WG hl Ao aaw;obtain⟨m,hm,g⟩:=g;exact⟨m,hm,s2,u2,U,ajd,g,ai9⟩
    |exit i=>exact⟨Vp,u2,U,xz,S_,g⟩
    |goto i=>exact⟨Vp,u2,U,xz,S_,g⟩
    |ret=>exact⟨Vp,u2,U,xz,S_,g⟩
    |panic i=>exact⟨Vp,u2,U,xz,S_,g⟩
    |outgrown=>exact⟨Vp,u2,U,xz,S_,g⟩
 |rangeFunc f ps x y IE ID=>exact Ih IE ID
 |scope x ih=>intro C O fz Q st u a wa θ A h;exact h.elim
 |label l=>intro C O fz Q st u a wa θ A h;exact h.elim
 |goto l=>intro C O fz Q st u a wa θ A h;exact h.elim
 |refuse s=>intro C O fz Q st u a wa θ A h;exact h.elim
end
def Ej(n:Nat):ResultVar->Bool
 | .tmp t=>blt t n
 | .cell t _=>blt t n
def VO(n:Nat)(c:Code)(g:List ResultVar)(e:List Value):Bool:=gn n c&&ble n 65536&&g.all (Ej n)&&ble e.length n&&e.all plain
def FE(e:Array Value):ResultVar->Sem Value
 | .tmp t=>pure (e.getD t undef)
 | .cell x t=>do loadVar t (<- asAddr (e.getD x undef))
section
variable {C:Ctx} {a:Act} {wa:World} {st:St} {u:UW} {θ:Nat->Nat}
def xN{P:Program}{e:Array Value}{x:Nat}{t:TypeId}{g:Addr}{v:Value}{w:World}(h:e.getD x undef=.pointer (some g))(i:(loadVar t g).run P w=.ok v w):(FE e (.cell x t)).run P w=.ok v w:=by
 simp only[FE,run_bind,h,asAddr,run_pure,andThen_ok,i]
def MQ{P:Program}{e:Array Value}{r:ResultVar}{i:List ResultVar}{v:Value}{g:List Value}{w:World}(h:(FE e r).run P w=.ok v w)(j:(i.mapM (FE e)).run P w=.ok g w):
  ((r::i).mapM (FE e)).run P w=.ok (v::g) w:=by
 simp only[List.mapM_cons,run_bind,h,andThen_ok,j,run_pure]
def oM{P:Program}(y:Inv C a wa st u θ):∀(j:List ResultVar) (F:List Value->Prop),(∀r∈j,Ej C.n r=true)->tx P st u j F->
  ∃H,(j.mapM (FE a.tmps)).run P wa=.ok H wa/\F H
 |[],F,_,h=>⟨[],by simp,h⟩
 | .tmp t::j,F,G,h=>by
   simp only[tx]at h
   obtain⟨hp,h⟩:=aq h
   obtain⟨H,e,A⟩:=oM y j _ (λr e=>G r (by simp[e])) h;have w:Ej C.n (.tmp t)=true:=G _ (by simp);have Y:=y.iL t (iY.1 w);rw[iZ hp]at Y;exact⟨_,MQ (by simp only[FE,run_pure,Y]) e,A⟩
 | .cell x t::j,F,G,h=>by
   simp only[tx]at h;have w:Ej C.n (.cell x t)=true:=G _ (by simp);have hx:x<C.n:=iY.1 w;have I:=y.iL x hx;cases J:kinds P t with
   |none=>simp only[J]at h
   |some L=>
    simp only[J]at h;obtain⟨zM,⟨d,U⟩,xv⟩:=lY J;split at h
    .rename_i k g he;cases O:fh st.D k with
     |none=>simp only[O]at h
     |some m=>
      simp only[O]at h;obtain⟨hc,h⟩:=aq h;simp only[and_eq_true,ble_eq]at hc;obtain⟨h1,h2⟩:=hc;obtain⟨_,c,T,b1,b2,b3,_⟩:=y.boxes k m (kp O);have BS:=ik b2 b3 L.length g h1 (og h2);obtain⟨H,e,A⟩:=oM y j _ (λr e=>G r (by simp[e])) h;rw[he]at I;have Qm:a.tmps.getD x undef=.pointer (some ⟨θ k,g,none⟩):=I;exact⟨_,MQ (xN Qm (by rw[ix J b1 (show g+L.length<=c.size by omega),BS])) e,A⟩
    .obtain⟨b,g,hv,h⟩:=gG h;obtain⟨us,hlen,hp,dF,h⟩:=re h;obtain⟨H,e,A⟩:=oM y j _ (λr e=>G r (by simp[e])) h;rw[hv,iZ rfl]at I;by_cases hz:L.length=0
     .have mY:dx P t=true:=xv.resolve_right (by omega);have Gf:us=[]:=List.eq_nil_of_length_eq_zero (by omega);subst Gf;obtain⟨i,hi⟩:=gY U;refine⟨_,MQ (xN I ?_) e,A⟩;simp only[loadVar,run_bind,lD U,mY,if_true,cK hi,<- zM,hz,andThen_ok];rfl
     .obtain⟨c,T,f,c1,c2,c3⟩:=vz y.below dF hz;exact⟨_,MQ (xN I (by rw[ix J c1 c2,<- c3])) e,A⟩
def Ie{P:Program}{fn:Func}{i:List ResultVar}(j:fn.results.toList=i){g:List Value}(h:(i.mapM (FE a.tmps)).run P wa=.ok g wa):
  (results fn a.tmps).run P wa=.ok (match g with|[v]=>v|g=>.tuple g.toArray) wa:=by
 have e:results fn a.tmps=(do let g <- fn.results.mapM (FE a.tmps);pure (if h:g.size=1 then g[0]else .tuple g):Sem Value):=by
  unfold results;congr 1
 rw[e,Array.mapM_eq_mapM_toList,j];simp only[run_bind,Sem.run_map,h,andThen_ok,run_pure]
 match g with
 |[]=>rfl
 |[v]=>rfl
 |v::r::g=>simp
end
def Inv.Zb{C:Ctx}{a:Act}{wa:World}{st:St}{u:UW}{θ:Nat->Nat}{d:Deferred}{I:List Deferred}{r:Nat}(g:Inv C a wa st u θ)(A:a.defers=d::I)(U:d={target:=.collected r,args:= #[]}):
  Inv C {a with defers:=I} (wa.putObj r (.deferred none)) st u θ:=by
 obtain⟨r',H,hr,h⟩:=g.defers.each d (by rw[A];simp);rw[U]at H;simp only[Deferred.mk.injEq,Target.collected.injEq,and_true]at H;subst H;have Y:(d::I).Nodup:=A▸g.defers.nodup;have cu:∀{b:Nat} {x:Obj},b≠r->Hid u wa b x->Hid u (wa.putObj r (.deferred none)) b x:=λ{b x} J h=>⟨(a_ J).trans h.at_,h.other,h.gk,h.mask⟩;refine⟨g.size,g.jf,⟨λd' j=>?_,(nodup_cons.1 Y).2⟩,λO L e=>cu ?_ (g.round O L e),g.iL,?_,?_,g.inj,g.jw,g.gS,?_,?_,g.qE,g.umod,g.Kt,g.BU,g.F0⟩
 .obtain⟨r1,G,w,y⟩:=g.defers.each d' (by rw[A];simp[j]);refine⟨r1,G,w,cu ?_ y⟩;rintro rfl;rw[<- U]at G;subst G;exact(nodup_cons.1 Y).1 j
 .rintro rfl;have:=(g.round O L e).at_;rw[h.at_]at this;cases this
 .refine⟨g.below.os,g.below.tape,g.below.output,by simpa using g.below.size,λb i=>?_⟩;by_cases e:b=r
  .subst e;exact .inr (h.mask i)
  .rw[a_ e];exact g.below.block b i
 .intro k m hk;obtain⟨zh,c,T,w,h2,h3,h4,h5,h6⟩:=g.boxes k m hk;have J:θ k≠r:=by
   intro e;rw[e,h.at_]at w;cases w
  exact⟨zh,c,T,(a_ J).trans w,h2,h3,h4,h5,h6⟩
 .intro b i;simpa using g.pY b i
 .exact⟨g.mod.os,g.mod.tape,g.mod.output,by simpa using g.mod.size,λb i hF=>(a_ (by omega)).trans (g.mod.cu b i hF)⟩
def vO{P:Program}{fn:Func}{i:List ResultVar}{R:Value->UW->Prop}{C:Ctx}{st:St}{u:UW}{θ:Nat->Nat}{G:Ending->World->Prop}(J:fn.results.toList=i)(I:∀r∈i,Ej C.n r=true):
  ∀(h:List Deferred) (a:Act) (wa:World),a.defers=h->Inv C a wa st u θ->tx P st u i (Oc R u)->(∀x v,Out C.F C.w0 C.w1 u.toWorld x->R v u->G (.returned v) x)->LeavesInM Fence.wide 0 P fn a.tmps G h .returning wa
 |[],a,wa,_,g,j,w=>by
  obtain⟨y,L,e⟩:=oM g i _ I j
  refine⟨_,Ie J L,w _ _ ⟨g.mod,g.below,g.umod,g.BU⟩ ?_⟩;unfold Oc at e
  match y,e with
  |[],e=>exact e
  |[v],e=>exact e
  |v::U::y,e=>exact e
 |d::h,a,wa,H,g,j,w=>by
  obtain⟨r,A,Y,O⟩:=g.defers.each d (by rw[H];simp);refine⟨by simp,.inl ⟨r,_,by rw[A],run_takeDeferred O.at_,?_⟩⟩;exact vO J I h {a with defers:=h} _ rfl (g.Zb H A) j w
def Uy{P:Program}{f:FuncId}{fn:Func}{c:Code}{n:Nat}{fA:List Nat}{loops jt:List (Nat×Cut)}{sa:List (Nat×List TypeId)}{A:List ResultVar}{g:List Value}{w:World}{F:Nat->Prop}{R:Value->UW->Prop}
  (hf:P.funcs[f]?=some fn) (x:fn.body=some c) (I:fn.ntmps=n) (Kh:fn.results.toList=A) (Y:VO n c A g=true) (O:∀b,F b->b<w.heap.size)
  (h:WF P n fA loops jt sa c A g ⟨w,F⟩ R):FnB P f g.toArray w F λv lo w'=>∃gk,(∀b,gk b->F b\/lo<=b)/\R v ⟨w',gk⟩:=by
 simp only[VO,and_eq_true,ble_eq,all_eq_true]at Y;obtain⟨⟨⟨⟨hc,hn⟩,hr⟩,hal⟩,nH⟩:=Y;intro w1 H;refine(callsIn_wide (n:=0)).1 (callsIn_of_wp_marks hf x trivial ?_);have hI:Inv ⟨n,w,w1,F,none⟩ {tmps:=g.toArray++replicate (fn.ntmps-g.toArray.size) undef,defers:=[]} w1 ⟨JB g,[]⟩ ⟨w,F⟩ (λ_=>0):=by
  have J:∀t,(g.toArray++replicate (fn.ntmps-g.toArray.size) undef).getD t undef=JB g t:=by
   intro t;rw[getD_eq_getD_getElem?];unfold JB;by_cases ht:t<g.length
   .rw[Array.getElem?_append_left (by simpa using ht)];simp
   .rw[Array.getElem?_append_right (by simp;omega),List.getElem?_eq_none (by omega),Array.getElem?_replicate];split<;>rfl
  have Su:∀t,plain (JB g t)=true:=by
   intro t;unfold JB;cases hg:g[t]? with
   |none=>rfl
   |some v=>exact nH v (mem_of_getElem? hg)
  refine⟨by simp[I];omega,hn,⟨by simp,List.nodup_nil⟩,λl r e=>(by cases e),λt _=>?_,H,by simp,by simp,λt _ k o e=>absurd e (kg (Su t) k o),by simp,λb x=>lt_of_lt_of_le (O b x) H.size,Mod.refl _ _,λb x _=>x,Mod.refl _ _,H.size,λb h1 _ h3=>absurd h3 (not_lt.2 h1),O⟩;rw[J];exact po (Su t)
 refine wpIn_mono (Xy (E:=⟨P,n,fA,loops,jt,sa⟩) c ⟨n,w,w1,F,none⟩ hc [] _ _ _ _ _ _ hI h) λe G HD j=>?_;obtain⟨cf,y,θ',U,_,j⟩:=j;have key:tx P cf y A (Oc R y)->LeavesInM Fence.wide 0 P fn G.tmps (λe L=>∃v w',e=.returned v/\Out F w w1 w' L/\∃gk,(∀b,gk b->F b\/w1.heap.size<=b)/\R v ⟨w',gk⟩) G.defers .returning HD:=by
  intro j;refine vO Kh hr G.defers G HD rfl U j λL v fP hR=>⟨v,y.toWorld,rfl,fP,y.gk,λb x=>?_,hR⟩;by_cases bK:b<w1.heap.size
  .exact .inl (U.qE b x bK)
  .exact .inr (by omega)
 cases e with
 |normal=>exact key j
 |ret=>exact key j
 |exit i=>exact j.elim
 |goto i=>exact j.elim
 |panic i=>exact j.elim
 |outgrown=>exact j.elim
def FnB.mono{P:Program}{f:FuncId}{g:Array Value}{w:World}{F:Nat->Prop}{K x:Value->Nat->World->Prop}(h:FnB P f g w F K)(y:∀v i w',Mod F w w'->w.heap.size<=i->K v i w'->x v i w'):
  FnB P f g w F x:=by
 intro w1 j;refine(h w1 j).mono λe A hp=>?_;obtain⟨v,w',rfl,r,hK⟩:=hp;exact⟨v,w',rfl,r,y v _ w' r.umod j.size hK⟩
def vA{H:JN}{b o n:Nat}{e:List Value}(h:rd H b o n=some e):∃c T f,H[b]?=some (.cells c T f)/\o+n<=c.size/\e=(c.toList.drop o).take n:=by
 unfold rd at h;cases g:H[b]? with
 |none=>simp[g]at h
 |some i=>
  cases i<;>simp only[g]at h<;>try (cases h;done)
  rename_i c T f;split at h
  .rename_i j;simp only[Option.some.injEq]at h;exact⟨c,T,f,rfl,j,h.symm⟩
  .cases h
def Bk{H:JN}{b o n:Nat}{c:Array Value}{T:TypeId}{f:Nat×Nat}(h:H[b]?=some (.cells c T f))(e:o+n<=c.size):rd H b o n=some ((c.toList.drop o).take n):=by
 simp[rd,h,e]
def Rm{H:JN}{b o n:Nat}{e:List Value}(h:rd H b o n=some e):e.length=n:=by
 obtain⟨c,T,f,i,g,rfl⟩:=vA h;simp;omega
def Ji{e:Nat}:∀{zz:List (List Value)},(∀x∈zz,x.length=e)->zz.flatten.length=zz.length*e
 |[],_=>by simp
 |x::zz,h=>by
  have g:=Ji (zz:=zz) (λy i=>h y (by simp[i]))
  rw[List.flatten_cons,List.length_append,length_cons,h x (by simp),g,Nat.add_mul,Nat.one_mul];omega
structure SlR(H:JN)(a:Option Addr)(n c sz:Nat)(zz:List (List Value)):Prop where
 len:zz.length=n
 cap:n<=c
 each:∀x∈zz,x.length=sz
 read:n≠0->∃b o,a=some ⟨b,o,none⟩/\rd H b o (n*sz)=some zz.flatten
def SlR.nil(H:JN)(e:Nat):SlR H none 0 0 e []:=⟨rfl,le_refl _,by simp,λh=>absurd rfl h⟩
def aD{x:Int}(g: -9223372036854775808<=x)(e:x<=9223372036854775807):IntKind.i64.wrap x=x:=IntWalk.i64_in x (by omega)
inductive Fl where
 |sh
 |nr
 |nil
 |nM (b c:Nat)
inductive PV where
 |raw (v:Value)
 |list (sz:Nat) (fl:Fl) (rows:List (List PV))
 |bt (row:List PV) (o:Nat)
 |fn (f:Fn) (first uk:List PV)
 |agg (cs:List PV)
 |aB (vs:List PV)
 |iface (t:TypeId) (p:PV)
 |box (k o:Nat)
 |aU
@[reducible] def pI(i:Int):PV:=.raw (.int .i64 i)
@[reducible] def pB(b:Bool):PV:=.raw (.bool b)
@[reducible] def pS(s:ByteArray):PV:=.raw (.string s)
@[reducible] def pP(b o:Nat):PV:=.raw (.pointer (some ⟨b,o,none⟩))
def PV.cell:PV->Bool
 | .raw _| .list .. | .bt .. | .fn .. | .iface .. =>true
 |_=>false
def PV.ok:PV->Bool
 | .agg _=>true
 |p=>p.cell
abbrev Fz:=Nat->Option (List Value)
def UG:Fl->Option Addr->Nat->Nat->Prop
 | .sh,_,_,_=>True
 | .nr,_,n,c=>c=n
 | .nil,a,n,c=>a=none/\n=0/\c=0
 | .nM b e,a,_,c=>a=some ⟨b,0,none⟩/\c=e
inductive bW(Z:Fz):PV->Value->Prop where
 |raw (v:Value) (h:plain v=true) (h1:one v=true):bW Z (.raw v) v
 |list (sz:Nat) (fl:Fl) (rows:List (List PV)) (a:Option Addr) (n c b o:Nat) (C:List Value) (g:Nat->Nat->Value) (hn:rows.length=n) (hc:n<=c) (hs:c=0\/gq a) (hr:∀r∈rows,r.length=sz)
   (ha:n≠0->a=some ⟨b,o,none⟩/\Z b=some C) (hg:∀i j:Nat,i<n->j<sz->C[o+i*sz+j]?=some (g i j))
   (hk:∀(i j:Nat) row p,rows[i]?=some row->row[j]?=some p->p.cell=true) (hp:∀(i j:Nat) row p,rows[i]?=some row->row[j]?=some p->bW Z p (g i j)) (hf:UG fl a n c):bW Z (.list sz fl rows) (.slice a n c)
 |bt (row:List PV) (o b off:Nat) (C:List Value) (g:Nat->Value) (hz:Z b=some C) (hg:∀j:Nat,j<row.length->C[off+j]?=some (g j)) (hk:∀(j:Nat) p,row[j]?=some p->p.cell=true) (hp:∀(j:Nat) p,row[j]?=some p->bW Z p (g j)):bW Z (.bt row o) (.pointer (some ⟨b,off+o,none⟩))
 |fn (f:Fn) (first uk:List PV) (fv cv:List Value) (h1:fv.length=first.length) (h2:cv.length=uk.length) (kf:∀p∈first,p.ok=true) (kc:∀p∈uk,p.ok=true) (hf:∀(i:Nat) p v,first[i]?=some p->fv[i]?=some v->bW Z p v) (hc:∀(i:Nat) p v,uk[i]?=some p->cv[i]?=some v->bW Z p v):bW Z (.fn f first uk) (.func f fv.toArray cv.toArray)
 |agg (cs:List PV) (vs:List Value) (hl:vs.length=cs.length) (hk:∀p∈cs,p.cell=true) (h:∀(i:Nat) p v,cs[i]?=some p->vs[i]?=some v->bW Z p v):bW Z (.agg cs) (.agg vs.toArray)
 |aB (ps:List PV) (vs:List Value) (hl:vs.length=ps.length) (hk:∀p∈ps,p.ok=true) (h:∀(i:Nat) p v,ps[i]?=some p->vs[i]?=some v->bW Z p v):bW Z (.aB ps) (.tuple vs.toArray)
 |iface (t:TypeId) (p:PV) (v:Value) (hk:p.ok=true) (h:bW Z p v):bW Z (.iface t p) (.iface t v)
 |box (k o:Nat):bW Z (.box k o) (dU k o)
 |aU (v:Value):bW Z .aU v
def Fz.le(Z g:Fz):Prop:=∀b C,Z b=some C->∃e,g b=some e/\C <+: e
def Fz.le.refl(Z:Fz):Z.le Z:=λ_ C h=>⟨C,h,List.prefix_refl C⟩
def Fz.le.trans{A B C:Fz}(h:A.le B)(k:B.le C):A.le C:=λb L g=>by
 obtain⟨x,w,r⟩:=h b L g;obtain⟨e,j,i⟩:=k b x w;exact⟨e,j,r.trans i⟩
def Bo{A B:List Value}(h:A <+: B){i:Nat}{v:Value}(e:A[i]?=some v):B[i]?=some v:=by
 obtain⟨t,rfl⟩:=h;rw[List.getElem?_append_left (List.getElem?_eq_some_iff.1 e).1];exact e
def bW.mono{Z Z':Fz}(hz:Z.le Z'){p:PV}{v:Value}(h:bW Z p v):bW Z' p v:=by
 induction h with
 |raw v h w=>exact .raw v h w
 |list Y fl rows a n c b o C g hn hc hs hr ha y r hp L e=>
  by_cases O:n=0
  .exact .list Y fl rows a n c b o C g hn hc hs hr (λh=>absurd O h) y r e L
  .obtain⟨U,w,x⟩:=hz b C (ha O).2;exact .list Y fl rows a n c b o U g hn hc hs hr (λ_=>⟨(ha O).1,w⟩) (λi j hi J=>Bo x (y i j hi J)) r e L
 |bt row o b off C g hC y r hp e=>
  obtain⟨U,w,x⟩:=hz b C hC;exact .bt row o b off U g w (λj J=>Bo x (y j J)) r e
 |fn f first uk fv cv w x kf kc L hc H G=>exact .fn f first uk fv cv w x kf kc H G
 |agg cs A I r h e=>exact .agg cs A I r e
 |aB cs A I r h e=>exact .aB cs A I r e
 |iface t p v r _ e=>exact .iface t p v r e
 |box k o=>exact .box k o
 |aU v=>exact .aU v
def bW.cell{Z:Fz}{p:PV}{v:Value}(h:bW Z p v)(hc:p.cell=true):plain v=true/\one v=true:=by
 cases h<;>first|(constructor<;>assumption)|exact⟨rfl,rfl⟩|(simp[PV.cell]at hc)
def bW.plain{Z:Fz}{p:PV}{v:Value}(h:bW Z p v)(hc:p.ok=true):plain v=true:=by
 cases h<;>first|assumption|rfl|(simp[PV.ok,PV.cell]at hc)
def br(Z:Fz)(ps:List PV)(e:List Value):Prop:=e.length=ps.length/\∀(i:Nat) p v,ps[i]?=some p->e[i]?=some v->p.ok=true/\bW Z p v
def bx(Z:Fz)(ps:List PV)(e:List Value):Prop:=e.length=ps.length/\∀(i:Nat) p v,ps[i]?=some p->e[i]?=some v->p.cell=true/\bW Z p v
def br.mono{Z g:Fz}(hz:Z.le g){ps:List PV}{e:List Value}(h:br Z ps e):br g ps e:=⟨h.1,λi p v a b=>⟨(h.2 i p v a b).1,(h.2 i p v a b).2.mono hz⟩⟩
def bx.mono{Z g:Fz}(hz:Z.le g){ps:List PV}{e:List Value}(h:bx Z ps e):bx g ps e:=⟨h.1,λi p v a b=>⟨(h.2 i p v a b).1,(h.2 i p v a b).2.mono hz⟩⟩
def PV.FO{p:PV}(h:p.cell=true):p.ok=true:=by cases p<;>simp_all [PV.ok,PV.cell]
def br.nil(Z:Fz):br Z [] []:=⟨rfl,by simp⟩
def bx.nil(Z:Fz):bx Z [] []:=⟨rfl,by simp⟩
def br.cons{Z:Fz}{p:PV}{ps:List PV}{v:Value}{e:List Value}(j:p.ok=true)(h:bW Z p v)(g:br Z ps e):br Z (p::ps) (v::e):=
 ⟨by simp[g.1],λi q w a b=>by
  cases i with
  |zero=>simp only[List.getElem?_cons_zero,Option.some.injEq]at a b;subst a;subst b;exact⟨j,h⟩
  |succ i=>simp only[List.getElem?_cons_succ]at a b;exact g.2 i q w a b⟩
def bx.cons{Z:Fz}{p:PV}{ps:List PV}{v:Value}{e:List Value}(j:p.cell=true)(h:bW Z p v)(g:bx Z ps e):bx Z (p::ps) (v::e):=
 ⟨by simp[g.1],λi q w a b=>by
  cases i with
  |zero=>simp only[List.getElem?_cons_zero,Option.some.injEq]at a b;subst a;subst b;exact⟨j,h⟩
  |succ i=>simp only[List.getElem?_cons_succ]at a b;exact g.2 i q w a b⟩
def br.inv{Z:Fz}{p:PV}{ps:List PV}{e:List Value}(h:br Z (p::ps) e):∃v g,e=v::g/\p.ok=true/\bW Z p v/\br Z ps g:=by
 obtain⟨j,h⟩:=h;cases e with
 |nil=>simp at j
 |cons v e=>exact⟨v,e,rfl,(h 0 p v rfl rfl).1,(h 0 p v rfl rfl).2,by simpa using j,λi q w a b=>h (i+1) q w (by simpa using a) (by simpa using b)⟩
def bx.inv{Z:Fz}{p:PV}{ps:List PV}{e:List Value}(h:bx Z (p::ps) e):∃v g,e=v::g/\p.cell=true/\bW Z p v/\bx Z ps g:=by
 obtain⟨j,h⟩:=h;cases e with
 |nil=>simp at j
 |cons v e=>exact⟨v,e,rfl,(h 0 p v rfl rfl).1,(h 0 p v rfl rfl).2,by simpa using j,λi q w a b=>h (i+1) q w (by simpa using a) (by simpa using b)⟩
def br.nq{Z:Fz}{e:List Value}(h:br Z [] e):e=[]:=List.eq_nil_of_length_eq_zero h.1
def bx.nq{Z:Fz}{e:List Value}(h:bx Z [] e):e=[]:=List.eq_nil_of_length_eq_zero h.1
def br.append{Z:Fz}{ps i:List PV}{e g:List Value}(h:br Z ps e)(k:br Z i g):br Z (ps++i) (e++g):=by
 induction ps generalizing e with
 |nil=>rw[h.nq];exact k
 |cons p ps j=>obtain⟨v,y,rfl,x,w,r⟩:=h.inv;exact br.cons x w (j r)
def bx.append{Z:Fz}{ps i:List PV}{e g:List Value}(h:bx Z ps e)(k:bx Z i g):bx Z (ps++i) (e++g):=by
 induction ps generalizing e with
 |nil=>rw[h.nq];exact k
 |cons p ps j=>obtain⟨v,y,rfl,x,w,r⟩:=h.inv;exact bx.cons x w (j r)
def bx.take{Z:Fz}{ps:List PV}{e:List Value}(h:bx Z ps e)(n:Nat):bx Z (ps.take n) (e.take n):=
 ⟨by simp[h.1],λi p v a b=>by
  rw[List.getElem?_take]at a b
  split at a
  .rename_i g;rw[if_pos g]at b;exact h.2 i p v a b
  .cases a⟩
def bx.drop{Z:Fz}{ps:List PV}{e:List Value}(h:bx Z ps e)(n:Nat):bx Z (ps.drop n) (e.drop n):=
 ⟨by simp[h.1],λi p v a b=>by rw[List.getElem?_drop]at a b;exact h.2 _ p v a b⟩
def bx.get{Z:Fz}{ps:List PV}{e:List Value}(h:bx Z ps e){i:Nat}{p:PV}(j:ps[i]?=some p):∃v,e[i]?=some v/\p.cell=true/\bW Z p v:=by
 have r:i<ps.length:=(List.getElem?_eq_some_iff.1 j).1;have g:i<e.length:=by rw[h.1];exact r
 exact⟨e[i],getElem?_eq_getElem g,h.2 i p _ j (getElem?_eq_getElem g)⟩
def br.get{Z:Fz}{ps:List PV}{e:List Value}(h:br Z ps e){i:Nat}{p:PV}(j:ps[i]?=some p):∃v,e[i]?=some v/\p.ok=true/\bW Z p v:=by
 have r:i<ps.length:=(List.getElem?_eq_some_iff.1 j).1;have g:i<e.length:=by rw[h.1];exact r
 exact⟨e[i],getElem?_eq_getElem g,h.2 i p _ j (getElem?_eq_getElem g)⟩
theorem bx.xV{Z:Fz}{ps:List PV}{vs:List Value}(h:bx Z ps vs):∀v∈vs,aP.plain v=true/\one v=true:=by
 intro v hv;obtain⟨i,hi⟩:=List.mem_iff_getElem?.1 hv;have bK:i<ps.length:=by rw[<- h.1];exact(List.getElem?_eq_some_iff.1 hi).1
 have:=h.2 i ps[i] v (getElem?_eq_getElem bK) hi;exact this.2.cell this.1
theorem br.xV{Z:Fz}{ps:List PV}{vs:List Value}(h:br Z ps vs):∀v∈vs,aP.plain v=true:=by
 intro v hv;obtain⟨i,hi⟩:=List.mem_iff_getElem?.1 hv;have bK:i<ps.length:=by rw[<- h.1];exact(List.getElem?_eq_some_iff.1 hi).1
 have:=h.2 i ps[i] v (getElem?_eq_getElem bK) hi;exact this.2.plain this.1
def PV.cells:PV->List PV
 | .agg cs=>cs
 |p=>[p]
def bW.cells{Z:Fz}{p:PV}{v:Value}(h:bW Z p v)(e:p.ok=true):bx Z p.cells v.cells.toList:=by
 have key:p.cell=true->v.cells= #[v]->p.cells=[p]->bx Z p.cells v.cells.toList:=λr g x=>by rw[g,x];exact bx.cons r h (bx.nil Z)
 cases h with
 |agg cs w j y h=>exact⟨j,λi p v a b=>⟨y p (mem_of_getElem? a),h i p v a b⟩⟩
 |raw v r g=>exact key rfl (by cases v<;>first|rfl|(simp[one]at g)) rfl
 |list=>exact key rfl rfl rfl
 |bt=>exact key rfl rfl rfl
 |fn=>exact key rfl rfl rfl
 |iface=>exact key rfl rfl rfl
 |aB ps w j h=>simp[PV.ok,PV.cell]at e
 |box k o=>simp[PV.ok,PV.cell]at e
 |aU v=>simp[PV.ok,PV.cell]at e
def cQ(Z:Fz)(ps:List PV)(e:List Value):Prop:=e.length=ps.length/\∀(i:Nat) p v,ps[i]?=some p->e[i]?=some v->bW Z p v
inductive Ob where
 |cells (T:TypeId) (cs:List PV)
 |nM (n m:Nat)
 |obj (o:Obj) (F:Nat->PV) (S:Nat->Value)
 |ro (T:TypeId) (cs:List PV)
def Ob.rw:Ob->Bool
 | .ro .. =>false
 |_=>true
abbrev Mem:=Nat->Option Ob
def M0:Mem:=λ_=>none
def Mem.set(e:Mem)(b:Nat)(o:Option Ob):Mem:=λc=>if c=b then o else e c
def Mem.or(g e:Mem):Mem:=λb=>match g b with|some o=>some o|Option.none=>e b
def Mem.sep(g e:Mem):Prop:=∀b,g b=Option.none\/e b=Option.none
@[simp] theorem Mem.ao(e:Mem)(b:Nat)(o:Option Ob):e.set b o b=o:=by simp[Mem.set]
def Mem.ax(e:Mem){b c:Nat}(o:Option Ob)(h:c≠b):e.set b o c=e c:=by simp[Mem.set,h]
def zQ(Z:Fz)(u:UW)(b:Nat):Ob->Prop
 | .cells T cs=>Z b=none/\∃A:Array Value,u.heap[b]?=some (.cells A T (0,0))/\cQ Z cs A.toList
 | .nM n m=>(∃C,Z b=some C/\C.length=n)/\∃(A:Array Value) (T:TypeId),u.heap[b]?=some (.cells A T (0,0))/\m<=A.size
 | .obj o F S=>Z b=none/\u.heap[b]?=some o/\∀t,bW Z (F t) (S t)
 | .ro T cs=>Z b=none/\∃A:Array Value,u.heap[b]?=some (.cells A T (0,0))/\cQ Z cs A.toList
structure Good(Z:Fz)(u:UW)(μ:Mem):Prop where
 Da:∀b C,Z b=some C->∃A T f,u.heap[b]?=some (.cells A T f)/\C <+: A.toList
 mem:∀b o,μ b=some o->(o.rw=true->u.gk b)/\zQ Z u b o
def zQ.lt{Z:Fz}{u:UW}{b:Nat}{o:Ob}(h:zQ Z u b o):b<u.heap.size:=by
 cases o with
 |cells T cs=>obtain⟨_,A,h,_⟩:=h;exact(Array.getElem?_eq_some_iff.1 h).1
 |nM n m=>obtain⟨_,A,T,h,_⟩:=h;exact(Array.getElem?_eq_some_iff.1 h).1
 |obj o F S=>exact(Array.getElem?_eq_some_iff.1 h.2.1).1
 |ro T cs=>obtain⟨_,A,h,_⟩:=h;exact(Array.getElem?_eq_some_iff.1 h).1
def Good.Al{Z:Fz}{u:UW}{e:Mem}(h:Good Z u e){b:Nat}(g:Z b≠none):b<u.heap.size:=by
 cases hz:Z b with
 |none=>exact absurd hz g
 |some C=>obtain⟨A,T,f,h,_⟩:=h.Da b C hz;exact(Array.getElem?_eq_some_iff.1 h).1
def Good.Qi{Z:Fz}{u:UW}{e:Mem}(h:Good Z u e){b:Nat}(g:e b≠none):b<u.heap.size:=by
 cases hz:e b with
 |none=>exact absurd hz g
 |some o=>exact(h.mem b o hz).2.lt
structure Ext(Z:Fz)(μ:Mem)(N:Nat)(Z':Fz)(μ':Mem):Prop where
 le:Z.le Z'
 zs:∀b C,Z b=some C->μ b=none->Z' b=some C
 zn:∀b,Z' b≠none->Z b≠none\/μ b≠none\/N<=b
 mn:∀b,μ' b≠none->μ b≠none\/N<=b
 lt:∀b,Z b≠none->b<N
def Good.ext{Z:Fz}{u:UW}{e:Mem}(h:Good Z u e):Ext Z e u.heap.size Z e:=⟨Fz.le.refl _,λ_ _ h _=>h,λ_ h=>.inl h,λ_ h=>.inl h,λ_ g=>h.Al g⟩
def Ext.trans{Z y i:Fz}{r g w:Mem}{N A:Nat}(h:Ext Z r N y g)(k:Ext y g A i w)(I:N<=A):Ext Z r N i w:=by
 refine⟨h.le.trans k.le,λb C hz x=>?_,λb j=>?_,λb j=>?_,h.lt⟩
 .refine k.zs b C (h.zs b C hz x) ?_;cases G:g b with
  |none=>rfl
  |some o=>
   have H:=h.lt b (by rw[hz];simp);rcases h.mn b (by rw[G];simp)with e|e
   .exact absurd x e
   .omega
 .rcases k.zn b j with e|e|e
  .exact h.zn b e
  .exact .inr (h.mn b e)
  .exact .inr (.inr (by omega))
 .rcases k.mn b j with e|e
  .exact h.mn b e
  .exact .inr (by omega)
def Mem.sub(μ' e:Mem):Prop:=∀b o,μ' b=some o->e b=some o
def Good.sub{Z:Fz}{u:UW}{g μ':Mem}(h:Good Z u g)(i:μ'.sub g):Good Z u μ':=⟨h.Da,λb o e=>h.mem b o (i b o e)⟩
abbrev Lq:=List (List PV)
abbrev Kq:=PV->Mem->Prop
end Go.aP
